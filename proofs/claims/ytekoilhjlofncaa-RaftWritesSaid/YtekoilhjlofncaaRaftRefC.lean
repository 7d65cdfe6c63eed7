/-
  Layer 19's reference: who leads; time goes by; one more cell.
-/
import Derived.Test.YtekoilhjlofncaaRaftRefB
set_option linter.unusedVariables false
set_option linter.unusedSimpArgs false
set_option maxRecDepth 4000
namespace Go.Proofs.Ytekoilhjlofncaa
open Go.Sl Go.RowKit Go.Raft

theorem ref_add {w0 : World} {R : List HProp} {p : Nat} {x : Rn} {d : ByteArray} (hl : x.log.length ≤ 10000) :
    Fun Try.prog w0 53 [.pointer (some ⟨p, 0, none⟩), .string d] (rnode p x :: R) (Ret w0 (fun _ : Unit => True) (fun _ => .tuple #[]) (fun _ => rnode p (addS d x) :: R)) := by
  refine Fun.ex (fun w h => rnode_open h) ?_
  rintro ⟨base, c, V, N, M⟩ ⟨hc, hrel⟩
  dsimp only at hc hrel ⊢
  have hlc := cvs_length x.log
  have e1 : (addS d x).log.length = x.log.length + 1 := by simp [addS]
  have e2 : cvs (addS d x).log = cvs x.log ++ [.int .i64 x.term, .string d] := by unfold addS; rw [cvs_append]; rfl
  refine Fun.enter Try.func53 rfl Try.ntmps53 rfl ?_
  refine WC.seq <| WC.region <| sv (vmP rfl) <| sv (vnil rfl) <| sv (vfldp fl54f2 rfl) <| sv (vfldp fl24f2 rfl) <| sv (vldc pl22 rfl) <| clx (by repeat' (first | with_reducible exact Sb.all | exact Sb.nil | (apply Sb.cons; focus (first | ((repeat (first | with_reducible exact Tk.here | with_reducible apply Tk.there)); done) | ((repeat (first | exact Tk.here | apply Tk.there)); done))) | apply Sb.drop)) (ref_copy (l := x.log) (by omega)) ct9 rfl fun r2 hr2 => ?_
  refine sv (vaS rfl) <| WL.nil <| WX.thenN <| WC.seq <| WC.region <| sv (vmS rfl) <| sv (vmP rfl) <| sv (vnil rfl) <| sv (vfldp fl54f2 rfl) <| sv (vfldpz fl24f0 rfl) <| sv (vldc pl3 rfl) <| sv (vmT rfl) <| sv (vbd (ps := [(0, .int _ _), (1, .string _)]) (cs := [_, _]) bt39 zt39 rfl (by rfl)) <| pm (fun _ h => Sb.own (by repeat' (first | with_reducible exact Sb.all | exact Sb.nil | (apply Sb.cons; focus (first | ((repeat (first | with_reducible exact Tk.here | with_reducible apply Tk.there)); done) | ((repeat (first | exact Tk.here | apply Tk.there)); done))) | apply Sb.drop)) h) <| apA (v := .agg _) (cs := [.int .i64 x.term, .string d]) Try.underlying22 zt39 rfl (fun _ => rfl) (fun _ => rfl) rfl rfl rfl (by decide) (by decide) (by intro v hv; simp only [List.mem_cons, List.not_mem_nil, or_false] at hv; rcases hv with rfl | rfl <;> rfl) (by omega) (by simp only [maxLen]; omega) (by omega) fun _ base6 c6 hc6 => ?_
  exact sv (vaS rfl) <| WL.nil <| WX.thenN <| WC.region <| sv (vmP rfl) <| sv (vmS rfl) <| sv (vnil rfl) <| sv (vfldp fl54f2 rfl) <| sv (vfldp fl24f2 rfl) <| stp (v := .slice _ _ _) pl22 sz22 rfl rfl rfl <| WL.nil <| WX.end0 rfl (()) (trivial) rfl (fun w h => rnode_mk (x := addS d x) (by rw [e1]; exact hc6) (hrel.same rfl rfl ⟨rfl, rfl⟩ ⟨rfl, rfl⟩) (by rw [e2]; unfold rcells; rw [e1]; exact Sb.own (by repeat' (first | with_reducible exact Sb.all | exact Sb.nil | (apply Sb.cons; focus (first | ((repeat (first | with_reducible exact Tk.here | with_reducible apply Tk.there)); done) | ((repeat (first | exact Tk.here | apply Tk.there)); done))) | apply Sb.drop)) h))
def cntV (V : Nat → Bool) : Nat → Nat
  | 0 => 0
  | j + 1 => cntV V j + if V (j + 1) = true then 1 else 0
theorem cntV_le {V : Nat → Bool} : ∀ {j : Nat}, cntV V j ≤ j
  | 0 => Nat.le_refl _
  | j + 1 => by have := cntV_le (V := V) (j := j); unfold cntV; split <;> omega
theorem cntV_filter {V : Nat → Bool} : ∀ {j : Nat}, cntV V j = ((List.range j).filter fun q => V (q + 1)).length
  | 0 => rfl
  | j + 1 => by
    unfold cntV
    rw [List.range_succ, List.filter_append, List.length_append, cntV_filter (j := j)]
    by_cases h : V (j + 1) = true <;> simp [h]
theorem cntV_voted {x : Rn} {V : Nat → Bool} (hv : ∀ k : Nat, 1 ≤ k → k ≤ 5 → (V k = true ↔ (k : Int) ∈ x.voted)) (hd : x.voted.Nodup) (hm : ∀ k ∈ x.voted, 1 ≤ k ∧ k ≤ x.n) (hn : 0 ≤ x.n ∧ x.n ≤ 5) : cntV V x.n.toNat = x.voted.length := by
  have hp : (((List.range x.n.toNat).filter fun q => V (q + 1)).map fun q : Nat => (q : Int) + 1).Perm x.voted := by
    rw [List.perm_ext_iff_of_nodup _ hd]
    · intro a
      simp only [List.mem_map, List.mem_filter, List.mem_range]
      constructor
      · rintro ⟨q, ⟨h1, h2⟩, rfl⟩
        exact (hv (q + 1) (by omega) (by omega)).1 h2
      · intro ha
        have h1 := hm a ha
        refine ⟨a.toNat - 1, ⟨by omega, ?_⟩, by omega⟩
        have h2 := (hv a.toNat (by omega) (by omega)).2 (by rw [show ((a.toNat : Nat) : Int) = a by omega]; exact ha)
        rwa [show a.toNat - 1 + 1 = a.toNat by omega]
    · exact (List.Pairwise.map _ (fun a b h => by intro e; exact h (by omega)) (List.nodup_range.filter _))
  rw [cntV_filter, ← hp.length_eq, List.length_map]
def fillN (N : Nat → Int) (v : Int) (j : Nat) : Nat → Int := fun q => if 1 ≤ q ∧ q ≤ j then v else N q
theorem fillN_zero {N : Nat → Int} {v : Int} : fillN N v 0 = N := by
  funext q; unfold fillN; rw [if_neg (by omega)]
theorem fillN_succ {N : Nat → Int} {v : Int} {j : Nat} : updN (fillN N v j) ((j : Int) + 1).toNat v = fillN N v (j + 1) := by
  funext q
  unfold updN fillN
  by_cases h : q = ((j : Int) + 1).toNat
  · rw [if_pos h, if_pos (by omega)]
  · rw [if_neg h]
    by_cases h2 : 1 ≤ q ∧ q ≤ j
    · rw [if_pos h2, if_pos (by omega)]
    · rw [if_neg h2, if_neg (by omega)]
theorem no_mailsR {w0 w : World} {A : List HProp} (H : Own w0 A w) : Own w0 (row none 0 9 28 (mvs []) :: mrows [] :: A) w := no_mails H
theorem ref_leads {w0 : World} {R : List HProp} {p : Nat} {x : Rn} (hx : RInv x) (hr : x.role = 1) :
    Fun Try.prog w0 41 [.pointer (some ⟨p, 0, none⟩)] (rnode p x :: R) (MRr w0 p R (leadS x)) := by
  refine Fun.ex (fun w h => rnode_open h) ?_
  rintro ⟨base, c, V, N, M⟩ ⟨hc, hrel⟩
  dsimp only at hc hrel ⊢
  have hn := hx.n
  have hl := hx.log
  have hvd := hx.voted hr
  have hcv := cntV_voted (hrel.voted hr) hvd.1 hvd.2 ⟨by omega, hn.2⟩
  refine Fun.enter Try.func41 rfl Try.ntmps41 rfl ?_
  refine WC.seq <| WC.region <| sv (vaS rfl) <| WL.nil <| WX.thenN <| WC.seq <| WC.region <| sv (vaI rfl) <| WL.nil <| WX.thenN <| WC.seq <| WC.seq <| WC.region <| sv (vaI rfl) <| WL.nil <| WX.thenN <| WC.block <| ?_
  refine WC.loopS (ι := Nat) (fun i => [(3, .int .i64 (cntV V i)), (4, .int .i64 ((i : Int) + 1))]) [(0, .pointer _)] (fun i => i ≤ x.n.toNat) (fun i => x.n.toNat - i) (0) (by omega) ⟨rfl, rfl, trivial⟩ ⟨rfl, trivial⟩ ?_
  intro j hj ρh
  have hb := cntV_le (V := V) (j := j)
  refine WC.seq <| WC.seq <| WC.region <| sv (vmI rfl) <| sv (vmP rfl) <| sv (vnil rfl) <| sv (vfldp fl54f1 rfl) <| sv (vldc pl3 rfl) <| sv (vle rfl rfl) <| WL.nil <| WX.thenN <| ?_
  refine WC.ite rfl (fun h1 => ?_) (fun h1 => ?_)
  · -- then
    refine WC.skip <| WX.thenN <| WC.seq <| WC.block <| WC.seq <| WC.region <| sv (vmP rfl) <| sv (vmI rfl) <| sv (vnil rfl) <| sv (vfldp fl54f7 rfl) <| sv (vixap Try.underlying51 sz4 rfl rfl (by omega) (by omega)) <| sv (vldx pl4 rfl (rc_V (by omega))) <| WL.nil <| WX.thenN <| ?_
    refine WC.iteb rfl (fun h2 => ?_) (fun h2 => ?_)
    · -- then
      exact WC.region <| sv (vmI rfl) <| sv (vadd rfl rfl (by omega)) <| sv (vaI rfl) <| WL.nil <| WX.blockN <| WX.thenN <| WC.region <| sv (vmI rfl) <| sv (vadd rfl rfl (by omega)) <| sv (vaI rfl) <| WL.nil <| WX.again (j + 1) (by omega) (by omega) ⟨iv (by show (cntV V j : Int) + 1 = ((cntV V j + if V (j + 1) = true then 1 else 0 : Nat) : Int); rw [if_pos (by simpa using h2)]; rfl), rfl, trivial⟩ ⟨rfl, trivial⟩ (fun _ h => Sb.own (by repeat' (first | with_reducible exact Sb.all | exact Sb.nil | (apply Sb.cons; focus (first | ((repeat (first | with_reducible exact Tk.here | with_reducible apply Tk.there)); done) | ((repeat (first | exact Tk.here | apply Tk.there)); done))) | apply Sb.drop)) h)
    · -- else
      exact WC.skip <| WX.blockN <| WX.thenN <| WC.region <| sv (vmI rfl) <| sv (vadd rfl rfl (by omega)) <| sv (vaI rfl) <| WL.nil <| WX.again (j + 1) (by omega) (by omega) ⟨iv (by show (cntV V j : Int) = ((cntV V j + if V (j + 1) = true then 1 else 0 : Nat) : Int); rw [if_neg (by simpa using h2)]; rfl), rfl, trivial⟩ ⟨rfl, trivial⟩ (fun _ h => Sb.own (by repeat' (first | with_reducible exact Sb.all | exact Sb.nil | (apply Sb.cons; focus (first | ((repeat (first | with_reducible exact Tk.here | with_reducible apply Tk.there)); done) | ((repeat (first | exact Tk.here | apply Tk.there)); done))) | apply Sb.drop)) h)
  · -- else
    have hjn : j = x.n.toNat := by omega
    subst hjn
    rw [hcv] at hb ⊢
    refine WC.exit <| WX.thenE <| WX.thenE <| WX.blockH <| WX.thenN <| WC.seq <| WC.seq <| WC.region <| sv (vmI rfl) <| sv (vmul rfl rfl (by omega)) <| sv (vmP rfl) <| sv (vnil rfl) <| sv (vfldp fl54f1 rfl) <| sv (vldc pl3 rfl) <| sv (vle rfl rfl) <| WL.nil <| WX.thenN <| ?_
    refine WC.ite rfl (fun h3 => ?_) (fun h3 => ?_)
    · -- then
      rw [show leadS x = (x, []) from if_neg (by omega)]
      exact WC.seq <| WC.region <| sv (vaS rfl) <| WL.nil <| WX.thenN <| WC.ret <| WX.thenR <| WX.ret1 rfl ((none, 0, [])) (⟨rfl, Nat.le_refl _⟩) rfl (fun w h => no_mailsR (rnode_mk hc hrel h))
    · -- else
      have hmaj : x.n < 2 * (x.voted.length : Int) := by omega
      have hxl := hx.leader hr
      have hll : (leaderS x).log.length = x.log.length := rfl
      have hln : (leaderS x).n = x.n := rfl
      refine WC.skip <| WX.thenN <| WC.seq <| WC.region <| sv (vmP rfl) <| sv (vnil rfl) <| sv (vfldp fl54f3 rfl) <| stp (v := .int _ _) pl3 sz3 rfl rfl rfl <| WL.nil <| WX.thenN <| WC.seq <| WC.region <| sv (vmP rfl) <| sv (vmP rfl) <| sv (vnil rfl) <| sv (vfldpz fl54f0 rfl) <| sv (vldc pl3 rfl) <| sv (vnil rfl) <| sv (vfldp fl54f4 rfl) <| stp (v := .int _ _) pl3 sz3 rfl rfl rfl <| WL.nil <| WX.thenN <| WC.seq <| WC.seq <| WC.region <| sv (vaI rfl) <| WL.nil <| WX.thenN <| WC.block <| ?_
      refine WC.loop (ι := Nat) (fun i => [(5, .int .i64 ((i : Int) + 1))]) [(0, .pointer _)] (fun i => cel p (rcells (leaderS x) base c V (fillN N ((x.log.length : Int) + 1) i) (fillN M 0 i)) 54 :: row base c 2 39 (cvs x.log) :: R) (fun i => i ≤ x.n.toNat) (fun i => x.n.toNat - i) (0) (by omega) ⟨rfl, trivial⟩ ⟨rfl, trivial⟩ (fun w h => by rw [fillN_zero, fillN_zero]; exact h) ?_
      intro j hj ρh
      refine WC.seq <| WC.seq <| WC.region <| sv (vmI rfl) <| sv (vmP rfl) <| sv (vnil rfl) <| sv (vfldp fl54f1 rfl) <| sv (vldc pl3 rfl) <| sv (vle rfl rfl) <| WL.nil <| WX.thenN <| ?_
      refine WC.ite rfl (fun h4 => ?_) (fun h4 => ?_)
      · -- then
        exact WC.skip <| WX.thenN <| WC.seq <| WC.block <| WC.seq <| WC.plan (.bar [0, 1, 2, 3, 4, 5, 6, 7] 8 (.done [])) rfl (by kernel_rfl) <| WPl.barC <| dv (fun g => (vmP rfl)) <| dv (fun g => (vmI rfl)) <| dv (fun g => (vmP rfl)) <| dcl (fun g => Fun.quiet (ref_last (x := leaderS x) (base := base) (c := c) (V := V) (N := fillN N ((x.log.length : Int) + 1) j) (M := fillN M 0 j))) ct42 rfl <| dv (fun g => (vadd rfl rfl (by omega))) <| dv (fun g => (vnil rfl)) <| dv (fun g => (vfldp fl54f8 rfl)) <| dv (fun g => (vixap Try.underlying52 sz3 rfl rfl (by omega) (by omega))) <| WD.eff rfl <| stq (v := .int .i64 ((x.log.length : Int) + 1)) pl3 sz3 rfl rfl rfl (by show _ < 28; omega) (rc_setN (by omega)) <| WL.nil <| WX.brT <| WPl.finC <| WD.nil <| WX.thenN <| WC.region <| sv (vmP rfl) <| sv (vmI rfl) <| sv (vnil rfl) <| sv (vfldp fl54f9 rfl) <| sv (vixap Try.underlying52 sz3 rfl rfl (by omega) (by omega)) <| stq (v := .int .i64 0) pl3 sz3 rfl rfl rfl (by show _ < 28; omega) (rc_setM (by omega)) <| WL.nil <| WX.blockN <| WX.thenN <| WC.region <| sv (vmI rfl) <| sv (vadd rfl rfl (by omega)) <| sv (vaI rfl) <| WL.nil <| WX.again (j + 1) (by omega) (by omega) ⟨rfl, trivial⟩ ⟨rfl, trivial⟩ (fun w h => by rw [fillN_succ, fillN_succ] at h; exact h)
      · -- else
        have hjn : j = x.n.toNat := by omega
        subst hjn
        have hrl : RelR (leaderS x) V (fillN N ((x.log.length : Int) + 1) x.n.toNat) (fillN M 0 x.n.toNat) := ⟨fun h => absurd h (by show ¬ (2 : Int) = 1; decide), fun _ k hk => by
          have h1 := oth_mem.1 (show (k : Int) ∈ oth x.id x.n.toNat from hk)
          unfold fillN
          rw [if_pos (by omega), if_pos (by omega)]
          exact ⟨rfl, rfl⟩⟩
        refine WC.exit <| WX.thenE <| WX.thenE <| WX.blockH <| WX.thenN <| WC.seq <| WC.seq <| WC.region <| sv (vmP rfl) <| clx (by repeat' (first | with_reducible exact Sb.all | exact Sb.nil | (apply Sb.cons; focus (first | ((repeat (first | with_reducible exact Tk.here | with_reducible apply Tk.there)); done) | ((repeat (first | exact Tk.here | apply Tk.there)); done))) | apply Sb.drop)) (ref_last (x := leaderS x) (base := base) (c := c) (V := V) (N := fillN N ((x.log.length : Int) + 1) x.n.toNat) (M := fillN M 0 x.n.toNat)) ct42 rfl fun r19 hr19 => ?_
        refine sv (vlt rfl rfl) <| WL.nil <| WX.thenN <| ?_
        refine WC.ite rfl (fun h5 => ?_) (fun h5 => ?_)
        · -- then
          have hle : (leaderS x).log.length < 10000 := by show x.log.length < 10000; omega
          have hya := hxl.add (d := ByteArray.empty) rfl hle (by decide)
          have hpa := hya.count.peers rfl
          rw [show leadS x = feedAllS (countS (addS ByteArray.empty (leaderS x))) from (if_pos hmaj).trans (by rw [if_pos (show x.log.length < 10000 from hle)])]
          refine WC.perm (A' := rnode p (leaderS x) :: R) ?_ (fun w h => rnode_mk (x := leaderS x) hc hrl h)
          · -- a
            refine WC.region <| sv (vmP rfl) <| clx (by repeat' (first | with_reducible exact Sb.all | exact Sb.nil | (apply Sb.cons; focus (first | ((repeat (first | with_reducible exact Tk.here | with_reducible apply Tk.there)); done) | ((repeat (first | exact Tk.here | apply Tk.there)); done))) | apply Sb.drop)) (ref_add (x := leaderS x) (d := ByteArray.empty) hl) ct53 rfl fun r20 hr20 => ?_
            refine WL.nil <| WX.thenN <| WC.seq <| WC.region <| sv (vmP rfl) <| clx (by repeat' (first | with_reducible exact Sb.all | exact Sb.nil | (apply Sb.cons; focus (first | ((repeat (first | with_reducible exact Tk.here | with_reducible apply Tk.there)); done) | ((repeat (first | exact Tk.here | apply Tk.there)); done))) | apply Sb.drop)) (ref_count (x := addS ByteArray.empty (leaderS x)) rfl (by show 0 ≤ x.n ∧ x.n ≤ 5; omega) hya.log hya.commit.1 hya.rise) ct54 rfl fun r21 hr21 => ?_
            refine WL.nil <| WX.thenN <| WC.seq <| WC.region <| sv (vmP rfl) <| clx (by repeat' (first | with_reducible exact Sb.all | exact Sb.nil | (apply Sb.cons; focus (first | ((repeat (first | with_reducible exact Tk.here | with_reducible apply Tk.there)); done) | ((repeat (first | exact Tk.here | apply Tk.there)); done))) | apply Sb.drop)) (ref_all (x := countS (addS ByteArray.empty (leaderS x))) rfl (by show 0 ≤ x.n ∧ x.n ≤ 5; omega) hya.count.log (fun k _ => ⟨by have := hpa k; omega, (hpa k).2.2⟩)) ct40 rfl fun r22 hr22 => ?_
            exact sv (vaS rfl) <| WL.nil <| WX.thenN <| WC.ret <| WX.ret1 rfl (r22) (hr22) rfl (fun _ h => Sb.own (by repeat' (first | with_reducible exact Sb.all | exact Sb.nil | (apply Sb.cons; focus (first | ((repeat (first | with_reducible exact Tk.here | with_reducible apply Tk.there)); done) | ((repeat (first | exact Tk.here | apply Tk.there)); done))) | apply Sb.drop)) h)
        · -- else
          have hpa := hxl.count.peers rfl
          rw [show leadS x = feedAllS (countS (leaderS x)) from (if_pos hmaj).trans (by rw [if_neg (show ¬ x.log.length < 10000 by have h6 : ¬ (x.log.length : Int) < 10000 := h5; omega)])]
          refine WC.perm (A' := rnode p (leaderS x) :: R) ?_ (fun w h => rnode_mk (x := leaderS x) hc hrl h)
          · -- b
            refine WC.skip <| WX.thenN <| WC.seq <| WC.region <| sv (vmP rfl) <| clx (by repeat' (first | with_reducible exact Sb.all | exact Sb.nil | (apply Sb.cons; focus (first | ((repeat (first | with_reducible exact Tk.here | with_reducible apply Tk.there)); done) | ((repeat (first | exact Tk.here | apply Tk.there)); done))) | apply Sb.drop)) (ref_count (x := leaderS x) rfl (by show 0 ≤ x.n ∧ x.n ≤ 5; omega) hl hxl.commit.1 hxl.rise) ct54 rfl fun r21 hr21 => ?_
            refine WL.nil <| WX.thenN <| WC.seq <| WC.region <| sv (vmP rfl) <| clx (by repeat' (first | with_reducible exact Sb.all | exact Sb.nil | (apply Sb.cons; focus (first | ((repeat (first | with_reducible exact Tk.here | with_reducible apply Tk.there)); done) | ((repeat (first | exact Tk.here | apply Tk.there)); done))) | apply Sb.drop)) (ref_all (x := countS (leaderS x)) rfl (by show 0 ≤ x.n ∧ x.n ≤ 5; omega) hl (fun k _ => ⟨by have := hpa k; omega, (hpa k).2.2⟩)) ct40 rfl fun r22 hr22 => ?_
            exact sv (vaS rfl) <| WL.nil <| WX.thenN <| WC.ret <| WX.ret1 rfl (r22) (hr22) rfl (fun _ h => Sb.own (by repeat' (first | with_reducible exact Sb.all | exact Sb.nil | (apply Sb.cons; focus (first | ((repeat (first | with_reducible exact Tk.here | with_reducible apply Tk.there)); done) | ((repeat (first | exact Tk.here | apply Tk.there)); done))) | apply Sb.drop)) h)
end Go.Proofs.Ytekoilhjlofncaa
