/-
  Layer 19: nodes and their mails: an act.
-/
import Derived.Test.YtekoilhjlofncaaRaftNetD
set_option linter.unusedVariables false
set_option linter.unusedSimpArgs false
set_option maxRecDepth 4000
namespace Go.Proofs.Ytekoilhjlofncaa
open Go.Sl Go.RowKit Go.Raft

theorem hnet_close {w0 w : World} {p j : Nat} {s : NS} {q : Nat × Rn} {b : NB} {A : List HProp} (hq : s.nodes[j]? = some q) (hw : NW s b) (H : Own w0 (netL2 p j q s b A) w) : Own w0 (hnet p s :: A) w := by
  have h := hnet_back (y := q.2) hq hw H
  have e : { s with nodes := s.nodes.set j (q.1, q.2) } = s := by
    have : s.nodes.set j (q.1, q.2) = s.nodes := by
      obtain ⟨h1, h2⟩ := List.getElem?_eq_some_iff.1 hq
      rw [show (q.1, q.2) = s.nodes[j] from h2.symm]
      exact List.set_getElem_self h1
    rw [this]
  rwa [e] at h
theorem hnet_new {w0 w : World} {p j p' : Nat} {s : NS} {q : Nat × Rn} {y : Rn} {b : NB} {A : List HProp} (hq : s.nodes[j]? = some q) (hw : NW s b) (H : Own w0 (hnode p' y :: hnodes (s.nodes.eraseIdx j) :: cel p (ncel s b) 70 :: row b.lb b.lc 1 32 ((nptr (s.nodes.map Prod.fst)).set j (.pointer (some ⟨p', 0, none⟩))) :: row b.mb b.mc 9 28 (mvs s.mails) :: mrows s.mails :: row b.gb b.gc 2 95 (ldv s.led) :: row b.db b.dc 2 39 (cvs s.done) :: row b.sb b.sc 1 3 (i64s s.seen) :: A) w) : Own w0 (hnet p { s with nodes := s.nodes.set j (p', y) } :: A) w := by
  have h2 := hnodes_new (y := y) (p := p') hq (Own.sp2 (by repeat' (first | exact Spl.nil | (apply Spl.cons; focus (first | ((repeat (first | with_reducible exact Tk.here | with_reducible apply Tk.there)); done) | ((repeat (first | exact Tk.here | apply Tk.there)); done))))) H)
  have e1 : (s.nodes.set j (p', y)).length = s.nodes.length := List.length_set
  refine hnet_mk (b := b) ⟨by show (s.nodes.set j (p', y)).length ≤ b.lc; rw [e1]; exact hw.l, hw.m, hw.g, hw.d, hw.s⟩ ?_
  show Own w0 (cel p [.slice b.lb (s.nodes.set j (p', y)).length b.lc, .slice b.mb s.mails.length b.mc, .slice b.gb s.led.length b.gc, .slice b.db s.done.length b.dc, .slice b.sb s.seen.length b.sc] 70 :: row b.lb b.lc 1 32 (nptr ((s.nodes.set j (p', y)).map Prod.fst)) :: hnodes (s.nodes.set j (p', y)) :: row b.mb b.mc 9 28 (mvs s.mails) :: mrows s.mails :: row b.gb b.gc 2 95 (ldv s.led) :: row b.db b.dc 2 39 (cvs s.done) :: row b.sb b.sc 1 3 (i64s s.seen) :: A) w
  rw [e1, show nptr ((s.nodes.set j (p', y)).map Prod.fst) = (nptr (s.nodes.map Prod.fst)).set j (.pointer (some ⟨p', 0, none⟩)) by unfold nptr; rw [List.map_set, List.map_set]]
  exact Sb.own (by repeat' (first | with_reducible exact Sb.all | exact Sb.nil | (apply Sb.cons; focus (first | ((repeat (first | with_reducible exact Tk.here | with_reducible apply Tk.there)); done) | ((repeat (first | exact Tk.here | apply Tk.there)); done))) | apply Sb.drop)) h2
theorem net_do {w0 : World} {R : List HProp} {p : Nat} {s : NS} {k i c : Int} (hN : NetOk (nsL s) (nsM s) c) (hc : 0 ≤ c ∧ c + 1 ≤ 9223372036854775807) (hi : -9223372036854775808 ≤ i ∧ i ≤ 9223372036854775807) :
    Fun Try.prog w0 29 [.pointer (some ⟨p, 0, none⟩), .agg #[.int .i64 k, .int .i64 i]] (hnet p s :: R) (Ret w0 (fun s' : NS => DoR s s' k i) (fun _ => .bool true) (fun s' => hnet p s' :: R)) := by
  have hn1 := hN.n1
  have hn5 := hN.n5
  have hml := hN.len
  rw [nsL_length] at hn1 hn5
  rw [nsM_length] at hml
  obtain ⟨j, hj⟩ : ∃ j : Nat, pickN i s.nodes.length = (j : Int) := ⟨(pickN i s.nodes.length).toNat, by have := (pickN_bound (c := i) (n := s.nodes.length) (by omega)).1; omega⟩
  have hjl : j < s.nodes.length := by have := (pickN_bound (c := i) (n := s.nodes.length) (by omega)).2; omega
  obtain ⟨q, hq⟩ : ∃ q, s.nodes[j]? = some q := ⟨_, List.getElem?_eq_getElem hjl⟩
  have hqn : (nsL s)[j]? = some q.2 := by unfold nsL; rw [List.getElem?_map, hq]; rfl
  obtain ⟨hx, hxi, hxn, hxw⟩ := hN.nodes j q.2 hqn
  rw [nsL_length] at hxn
  refine Fun.ex (B := fun b => netL2 p j q s b R) (fun w h => hnet_at hq h) ?_
  intro b hb
  dsimp only [netL2]
  have hbl := hb.l
  have hln : (nptr (s.nodes.map Prod.fst)).length = s.nodes.length := by rw [nptr_length, List.length_map]
  have hnp : (nptr (s.nodes.map Prod.fst))[((j : Int)).toNat]? = some (.pointer (some ⟨q.1, 0, none⟩)) := nptr_at (by rw [List.getElem?_map, hq]; rfl)
  refine Fun.enter Try.func29 rfl Try.ntmps29 rfl ?_
  refine WC.seq <| WC.region <| bxc (v := .agg _) (cs := [.int _ _, .int _ _]) rfl rfl fun b1 => sv (vaB rfl) <| WL.nil <| WX.thenN <| WC.seq <| WC.draws rfl (by kernel_rfl) <| qv (vfldp fl63f1 rfl) <| qv (vldc pl3 rfl) <| qv (vmP rfl) <| qv (vnil rfl) <| qv (vfldpz fl70f0 rfl) <| qv (vldc pl66 rfl) <| qv (vlen Try.underlying66 rfl) <| qcl (Fun.quiet (law_pick_at hj (by omega) hi)) ct28 rfl <| qv (vaI rfl) <| WQ.nil <| WX.thenN <| WC.seq <| WC.seq <| WC.region <| sv (vfldpz fl63f0 rfl) <| sv (vldc pl3 rfl) <| WL.nil <| WX.thenN <| WC.block <| WC.seq <| WC.region <| sv (veq rfl rfl) <| sv (vaB rfl) <| WL.nil <| WX.thenN <| ?_
  refine WC.ite rfl (fun h1 => ?_) (fun h1 => ?_)
  · -- then
    refine WC.region <| sv (vmP rfl) <| sv (vmP rfl) <| sv (vnil rfl) <| sv (vfldpz fl70f0 rfl) <| sv (vldc pl66 rfl) <| sv (vmI rfl) <| sv (vix1 Try.underlying66 sz32 rfl rfl (by omega) (by omega) (RdC.of_row (c := b.lc) (s := 1) (e := 32) (vs := nptr (s.nodes.map Prod.fst)) (by simp)) (by omega)) <| sv (vldo pl32 rfl (RdC.of_row (c := b.lc) (s := 1) (e := 32) (vs := nptr (s.nodes.map Prod.fst)) (by simp)) hnp) <| clx (by repeat' (first | with_reducible exact Sb.all | exact Sb.nil | (apply Sb.cons; focus (first | ((repeat (first | with_reducible exact Tk.here | with_reducible apply Tk.there)); done) | ((repeat (first | exact Tk.here | apply Tk.there)); done))) | apply Sb.drop)) (raft_tick (x := q.2) hx (by omega)) ct15 rfl fun r9 hr9 => ?_
    obtain ⟨rb, rc, rl⟩ := r9
    dsimp only at hr9 ⊢
    refine WL.known (fun w h => (mails_big (ms := rl) h).1) fun hrl => ?_
    refine WL.perm (A' := hnet p { s with nodes := s.nodes.set j (q.1, (tickS q.2).1) } :: row rb rc 9 28 (mvs rl) :: mrows rl :: R) ?_ (fun w h => hnet_back hq hb (Sb.own (by repeat' (first | with_reducible exact Sb.all | exact Sb.nil | (apply Sb.cons; focus (first | ((repeat (first | with_reducible exact Tk.here | with_reducible apply Tk.there)); done) | ((repeat (first | exact Tk.here | apply Tk.there)); done))) | apply Sb.drop)) h))
    refine clx (by repeat' (first | with_reducible exact Sb.all | exact Sb.nil | (apply Sb.cons; focus (first | ((repeat (first | with_reducible exact Tk.here | with_reducible apply Tk.there)); done) | ((repeat (first | exact Tk.here | apply Tk.there)); done))) | apply Sb.drop)) (net_send (s := { s with nodes := s.nodes.set j (q.1, (tickS q.2).1) }) hml hrl) ct55 rfl fun r10 hr10 => ?_
    exact WL.nil <| WX.blockN <| WX.thenN <| WC.seq <| WC.region <| sv (vaB rfl) <| WL.nil <| WX.thenN <| WC.ret <| WX.ret1 rfl ({ s with nodes := s.nodes.set j (q.1, (tickS q.2).1), mails := sendN s.mails rl }) (do_tick h1 hj hq hr9.1) rfl (fun _ h => Sb.own (by repeat' (first | with_reducible exact Sb.all | exact Sb.nil | (apply Sb.cons; focus (first | ((repeat (first | with_reducible exact Tk.here | with_reducible apply Tk.there)); done) | ((repeat (first | exact Tk.here | apply Tk.there)); done))) | apply Sb.drop)) h)
  · -- else
    refine WC.cutvS (ι := Unit) (fun i => [(34, .bool (decide (k = 1 ∨ k = 2 ∨ k = 3)))]) [(0, .pointer _), (3, _), (5, .int _ _), (21, .int _ _)] (fun i => True) ⟨rfl, rfl, rfl, rfl, trivial⟩ ?_ ?_
    · -- up to the join
      refine WC.seq <| WC.region <| sv (veq rfl rfl) <| sv (vaB rfl) <| WL.nil <| WX.thenN <| ?_
      refine WC.ite rfl (fun h2 => ?_) (fun h2 => ?_)
      · -- then
        exact WC.skip <| WX.mid (()) (trivial) ⟨bI (by omega), trivial⟩ ⟨rfl, rfl, rfl, rfl, trivial⟩ (fun _ h => Sb.own (by repeat' (first | with_reducible exact Sb.all | exact Sb.nil | (apply Sb.cons; focus (first | ((repeat (first | with_reducible exact Tk.here | with_reducible apply Tk.there)); done) | ((repeat (first | exact Tk.here | apply Tk.there)); done))) | apply Sb.drop)) h)
      · -- else
        refine WC.seq <| WC.region <| sv (veq rfl rfl) <| sv (vaB rfl) <| WL.nil <| WX.thenN <| ?_
        refine WC.ite rfl (fun h3 => ?_) (fun h3 => ?_)
        · -- then
          exact WC.skip <| WX.mid (()) (trivial) ⟨bI (by omega), trivial⟩ ⟨rfl, rfl, rfl, rfl, trivial⟩ (fun _ h => Sb.own (by repeat' (first | with_reducible exact Sb.all | exact Sb.nil | (apply Sb.cons; focus (first | ((repeat (first | with_reducible exact Tk.here | with_reducible apply Tk.there)); done) | ((repeat (first | exact Tk.here | apply Tk.there)); done))) | apply Sb.drop)) h)
        · -- else
          exact WC.region <| sv (veq rfl rfl) <| sv (vaB rfl) <| WL.nil <| WX.mid (()) (trivial) ⟨bI (by omega), trivial⟩ ⟨rfl, rfl, rfl, rfl, trivial⟩ (fun _ h => Sb.own (by repeat' (first | with_reducible exact Sb.all | exact Sb.nil | (apply Sb.cons; focus (first | ((repeat (first | with_reducible exact Tk.here | with_reducible apply Tk.there)); done) | ((repeat (first | exact Tk.here | apply Tk.there)); done))) | apply Sb.drop)) h)
    · -- behind the join
      intro _ _ ρh
      refine WC.ite rfl (fun h4 => ?_) (fun h4 => ?_)
      · -- then
        refine WC.seq <| WC.seq <| WC.region <| sv (vmP rfl) <| sv (vnil rfl) <| sv (vfldp fl70f1 rfl) <| sv (vldc pl43 rfl) <| sv (vlen Try.underlying43 rfl) <| sv (veq rfl rfl) <| WL.nil <| WX.thenN <| ?_
        refine WC.ite rfl (fun h5 => ?_) (fun h5 => ?_)
        · -- then
          exact WC.seq <| WC.region <| sv (vaB rfl) <| WL.nil <| WX.thenN <| WC.ret <| WX.thenR <| WX.blockR <| WX.thenR <| WX.ret1 rfl (s) (do_none (.inl ⟨h4, by omega⟩)) rfl (fun w h => hnet_close hq hb (Sb.own (by repeat' (first | with_reducible exact Sb.all | exact Sb.nil | (apply Sb.cons; focus (first | ((repeat (first | with_reducible exact Tk.here | with_reducible apply Tk.there)); done) | ((repeat (first | exact Tk.here | apply Tk.there)); done))) | apply Sb.drop)) h))
        · -- else
          obtain ⟨a, ha⟩ : ∃ a : Nat, pickN i s.mails.length = (a : Int) := ⟨(pickN i s.mails.length).toNat, by have := (pickN_bound (c := i) (n := s.mails.length) (by omega)).1; omega⟩
          have hal : a < s.mails.length := by have := (pickN_bound (c := i) (n := s.mails.length) (by omega)).2; omega
          obtain ⟨m, hm⟩ : ∃ m, s.mails[a]? = some m := ⟨_, List.getElem?_eq_getElem hal⟩
          have hmn : m.ml ∈ nsM s := List.mem_map_of_mem (List.mem_of_getElem? hm)
          have hmt := hN.to_ m.ml hmn
          rw [nsL_length] at hmt
          obtain ⟨j2, hto⟩ : ∃ j2 : Nat, m.to_ = (j2 : Int) + 1 := ⟨(m.to_ - 1).toNat, by have : 1 ≤ m.to_ := hmt.1; omega⟩
          have hjl2 : j2 < s.nodes.length := by have : m.to_ ≤ s.nodes.length := hmt.2; omega
          obtain ⟨q2, hq2⟩ : ∃ q2, s.nodes[j2]? = some q2 := ⟨_, List.getElem?_eq_getElem hjl2⟩
          have hx2 : RInv q2.2 := (hN.nodes j2 q2.2 (by unfold nsL; rw [List.getElem?_map, hq2]; rfl)).1
          refine WC.skip <| WX.thenN <| WC.seq <| WC.draws rfl (by kernel_rfl) <| qv (vfldp fl63f1 rfl) <| qv (vldc pl3 rfl) <| qv (vmP rfl) <| qv (vnil rfl) <| qv (vfldp fl70f1 rfl) <| qv (vldc pl43 rfl) <| qv (vlen Try.underlying43 rfl) <| qcl (Fun.quiet (law_pick_at ha (by omega) hi)) ct28 rfl <| qv (vaI rfl) <| WQ.nil <| WX.thenN <| WC.seq <| WC.seq <| WC.region <| sv (vfldpz fl63f0 rfl) <| sv (vldc pl3 rfl) <| sv (veq rfl rfl) <| WL.nil <| WX.thenN <| ?_
          refine WC.ite rfl (fun h6 => ?_) (fun h6 => ?_)
          · -- then
            refine WC.perm (A' := hnet p s :: R) ?_ (fun w h => hnet_close hq hb (Sb.own (by repeat' (first | with_reducible exact Sb.all | exact Sb.nil | (apply Sb.cons; focus (first | ((repeat (first | with_reducible exact Tk.here | with_reducible apply Tk.there)); done) | ((repeat (first | exact Tk.here | apply Tk.there)); done))) | apply Sb.drop)) h))
            refine WC.seq <| WC.region <| sv (vmP rfl) <| sv (vmI rfl) <| clx (by repeat' (first | with_reducible exact Sb.all | exact Sb.nil | (apply Sb.cons; focus (first | ((repeat (first | with_reducible exact Tk.here | with_reducible apply Tk.there)); done) | ((repeat (first | exact Tk.here | apply Tk.there)); done))) | apply Sb.drop)) (net_lose hm hml) ct56 rfl fun r16 hr16 => ?_
            exact WL.nil <| WX.thenN <| WC.seq <| WC.region <| sv (vaB rfl) <| WL.nil <| WX.thenN <| WC.ret <| WX.thenR <| WX.blockR <| WX.thenR <| WX.ret1 rfl ({ s with mails := s.mails.eraseIdx a }) (do_lose h6 (by omega) ha) rfl (fun _ h => Sb.own (by repeat' (first | with_reducible exact Sb.all | exact Sb.nil | (apply Sb.cons; focus (first | ((repeat (first | with_reducible exact Tk.here | with_reducible apply Tk.there)); done) | ((repeat (first | exact Tk.here | apply Tk.there)); done))) | apply Sb.drop)) h)
          · -- else
            refine WC.perm (A' := hnet p s :: cel b1 [.int .i64 k, .int .i64 i] 63 :: R) ?_ (fun w h => hnet_close hq hb (Sb.own (by repeat' (first | with_reducible exact Sb.all | exact Sb.nil | (apply Sb.cons; focus (first | ((repeat (first | with_reducible exact Tk.here | with_reducible apply Tk.there)); done) | ((repeat (first | exact Tk.here | apply Tk.there)); done))) | apply Sb.drop)) h))
            refine WC.skip <| WX.thenN <| WC.seq <| WC.region <| sv (vmP rfl) <| sv (vmI rfl) <| sv (vfldpz fl63f0 rfl) <| sv (vldc pl3 rfl) <| sv (veq rfl rfl) <| clx (by repeat' (first | with_reducible exact Sb.all | exact Sb.nil | (apply Sb.cons; focus (first | ((repeat (first | with_reducible exact Tk.here | with_reducible apply Tk.there)); done) | ((repeat (first | exact Tk.here | apply Tk.there)); done))) | apply Sb.drop)) (net_come (st := decide (k = 2)) hm hml hn5 hto hq2 hx2) ct57 rfl fun r18 hr18 => ?_
            exact sv (vaB rfl) <| WL.nil <| WX.thenN <| WC.ret <| WX.blockR <| WX.thenR <| WX.ret1 rfl (comeN s a j2 q2 m.ml (decide (k = 2)) r18) (do_come (by omega) hm ha hto hq2 hr18) rfl (fun _ h => Sb.own (by repeat' (first | with_reducible exact Sb.all | exact Sb.nil | (apply Sb.cons; focus (first | ((repeat (first | with_reducible exact Tk.here | with_reducible apply Tk.there)); done) | ((repeat (first | exact Tk.here | apply Tk.there)); done))) | apply Sb.drop)) h)
      · -- else
        refine WC.seq <| WC.region <| sv (veq rfl rfl) <| sv (vaB rfl) <| WL.nil <| WX.thenN <| ?_
        refine WC.ite rfl (fun h7 => ?_) (fun h7 => ?_)
        · -- then
          have hok : newOk ((j : Int) + 1) s.nodes.length q.2.term q.2.vote q.2.log := by rw [← hxi, ← hxn]; exact hx.stable
          have hag : newR ((j : Int) + 1) s.nodes.length q.2.term q.2.vote q.2.log = againS q.2 := by unfold againS; rw [hxi, hxn]
          have hlog := hx.log
          refine WC.seq <| WC.plan (.pre [7, 8, 9, 10, 11, 12, 13] (.one [0, 1, 2, 3, 4, 5, 6] 14 (.bar [] 15 (.done [16, 17, 18, 19, 20])))) rfl (by kernel_rfl) <| WPl.preC <| dv (fun g => (vmP rfl)) <| dv (fun g => (vnil rfl)) <| dv (fun g => (vfldpz fl70f0 rfl)) <| dv (fun g => (vldc pl66 rfl)) <| dv (fun g => (vmI rfl)) <| dv (fun g => (vix1 Try.underlying66 sz32 rfl rfl (by omega) (by omega) (RdC.of_row (c := b.lc) (s := 1) (e := 32) (vs := nptr (s.nodes.map Prod.fst)) (by simp)) (by omega))) <| dv (fun g => (vldo pl32 rfl (RdC.of_row (c := b.lc) (s := 1) (e := 32) (vs := nptr (s.nodes.map Prod.fst)) (by simp)) hnp)) <| WD.nil <| WPl.oneX [hnode q.1 q.2] (by repeat' (first | exact Spl.nil | (apply Spl.cons; focus (first | ((repeat (first | with_reducible exact Tk.here | with_reducible apply Tk.there)); done) | ((repeat (first | exact Tk.here | apply Tk.there)); done))))) (fun g => by infer_instance) ?_
          refine dv (fun g => (vmI rfl)) <| dv (fun g => (vadd rfl rfl (by omega))) <| dv (fun g => (vmP rfl)) <| dv (fun g => (vnil rfl)) <| dv (fun g => (vfldpz fl70f0 rfl)) <| dv (fun g => (vldc pl66 rfl)) <| dv (fun g => (vlen Try.underlying66 rfl)) <| WD.eff rfl <| clx (by repeat' (first | with_reducible exact Sb.all | exact Sb.nil | (apply Sb.cons; focus (first | ((repeat (first | with_reducible exact Tk.here | with_reducible apply Tk.there)); done) | ((repeat (first | exact Tk.here | apply Tk.there)); done))) | apply Sb.drop)) (raft_stable (x := q.2) hx) ct23 rfl fun r24 hr24 => ?_
          refine WL.nil <| WX.br <| WPl.barC <| WD.eff rfl <| clx (by repeat' (first | with_reducible exact Sb.all | exact Sb.nil | (apply Sb.cons; focus (first | ((repeat (first | with_reducible exact Tk.here | with_reducible apply Tk.there)); done) | ((repeat (first | exact Tk.here | apply Tk.there)); done))) | apply Sb.drop)) (raft_new (l := q.2.log) (by omega) hok) ct10 rfl fun r25 hr25 => ?_
          refine WL.nil <| WX.brT <| WPl.finC <| dv (fun g => vmv) <| dv (fun g => (vex rfl rfl)) <| dv (fun g => (vex rfl rfl)) <| dv (fun g => (vaP rfl)) <| dv (fun g => (vaI rfl)) <| WD.nil <| WX.thenN <| WC.seq <| ?_
          refine WC.cutS [(90, .bool false)] [(0, .pointer _), (5, .int _ _), (7, .pointer _)] ⟨rfl, rfl, rfl, trivial⟩ ?_ fun ρh => ?_
          · -- law.go:218
            exact WC.region <| sv (vmP rfl) <| sv (vpeqF Try.underlying32 rfl rfl) <| sv (vmB rfl) <| svg rfl (vmI rfl) <| svg rfl (vne rfl rfl) <| sv (vpkf rfl) <| WL.nil <| WX.mid () trivial ⟨rfl, trivial⟩ ⟨rfl, rfl, rfl, trivial⟩ (fun _ h => Sb.own (by repeat' (first | with_reducible exact Sb.all | exact Sb.nil | (apply Sb.cons; focus (first | ((repeat (first | with_reducible exact Tk.here | with_reducible apply Tk.there)); done) | ((repeat (first | exact Tk.here | apply Tk.there)); done))) | apply Sb.drop)) h)
          refine WC.ff rfl ?_
          exact WC.skip <| WX.thenN <| WC.region <| sv (vmP rfl) <| sv (vnil rfl) <| sv (vfldpz fl70f0 rfl) <| sv (vldc pl66 rfl) <| sv (vmI rfl) <| sv (vmP rfl) <| sv (vix1 Try.underlying66 sz32 rfl rfl (by omega) (by omega) (RdC.of_row (c := b.lc) (s := 1) (e := 32) (vs := nptr (s.nodes.map Prod.fst)) (by simp)) (by omega)) <| strp (v := .pointer _) pl32 sz32 rfl rfl rfl (by omega) <| WL.nil <| WX.blockN <| WX.thenN <| WC.seq <| WC.region <| sv (vaB rfl) <| WL.nil <| WX.thenN <| WC.ret <| WX.ret1 rfl ({ s with nodes := s.nodes.set j (r25, againS q.2) }) (do_again h7 hj hq) rfl (fun w h => hnet_new hq hb (by rw [← hag]; exact Sb.own (by repeat' (first | with_reducible exact Sb.all | exact Sb.nil | (apply Sb.cons; focus (first | ((repeat (first | with_reducible exact Tk.here | with_reducible apply Tk.there)); done) | ((repeat (first | exact Tk.here | apply Tk.there)); done))) | apply Sb.drop)) h))
        · -- else
          refine WC.seq <| WC.region <| sv (veq rfl rfl) <| sv (vaB rfl) <| WL.nil <| WX.thenN <| ?_
          refine WC.ite rfl (fun h9 => ?_) (fun h9 => ?_)
          · -- then
            by_cases hpe : proposeE q.2 pB = 0
            · -- ok
              refine WC.seq <| WC.region <| sv (vmP rfl) <| sv (vnil rfl) <| sv (vfldpz fl70f0 rfl) <| sv (vldc pl66 rfl) <| sv (vmI rfl) <| sv (vix1 Try.underlying66 sz32 rfl rfl (by omega) (by omega) (RdC.of_row (c := b.lc) (s := 1) (e := 32) (vs := nptr (s.nodes.map Prod.fst)) (by simp)) (by omega)) <| sv (vldo pl32 rfl (RdC.of_row (c := b.lc) (s := 1) (e := 32) (vs := nptr (s.nodes.map Prod.fst)) (by simp)) hnp) <| clx (by repeat' (first | with_reducible exact Sb.all | exact Sb.nil | (apply Sb.cons; focus (first | ((repeat (first | with_reducible exact Tk.here | with_reducible apply Tk.there)); done) | ((repeat (first | exact Tk.here | apply Tk.there)); done))) | apply Sb.drop)) (raft_propose (x := q.2) (d := pB) hx hpe) ct21 rfl fun r33 hr33 => ?_
              obtain ⟨rb, rc, rl⟩ := r33
              dsimp only at hr33 ⊢
              refine WL.known (fun w h => (mails_big (ms := rl) h).1) fun hrl => ?_
              refine WL.perm (A' := hnet p { s with nodes := s.nodes.set j (q.1, (proposeS q.2 pB).1) } :: row rb rc 9 28 (mvs rl) :: mrows rl :: R) ?_ (fun w h => hnet_back hq hb (Sb.own (by repeat' (first | with_reducible exact Sb.all | exact Sb.nil | (apply Sb.cons; focus (first | ((repeat (first | with_reducible exact Tk.here | with_reducible apply Tk.there)); done) | ((repeat (first | exact Tk.here | apply Tk.there)); done))) | apply Sb.drop)) h))
              refine sv vmv <| sv (vex rfl rfl) <| sv (vex rfl rfl) <| sv (vex rfl rfl) <| sv (vaI rfl) <| sv (vaS rfl) <| sv (vaI rfl) <| WL.nil <| WX.thenN <| WC.region <| sv (vmP rfl) <| sv (vmS rfl) <| clx (by repeat' (first | with_reducible exact Sb.all | exact Sb.nil | (apply Sb.cons; focus (first | ((repeat (first | with_reducible exact Tk.here | with_reducible apply Tk.there)); done) | ((repeat (first | exact Tk.here | apply Tk.there)); done))) | apply Sb.drop)) (net_send (s := { s with nodes := s.nodes.set j (q.1, (proposeS q.2 pB).1) }) hml hrl) ct55 rfl fun r34 hr34 => ?_
              exact WL.nil <| WX.blockN <| WX.thenN <| WC.seq <| WC.region <| sv (vaB rfl) <| WL.nil <| WX.thenN <| WC.ret <| WX.ret1 rfl ({ s with nodes := s.nodes.set j (q.1, (proposeS q.2 pB).1), mails := sendN s.mails rl }) (do_prop h9 hj hq hpe hr33.1) rfl (fun _ h => Sb.own (by repeat' (first | with_reducible exact Sb.all | exact Sb.nil | (apply Sb.cons; focus (first | ((repeat (first | with_reducible exact Tk.here | with_reducible apply Tk.there)); done) | ((repeat (first | exact Tk.here | apply Tk.there)); done))) | apply Sb.drop)) h)
            · -- er
              refine WC.seq <| WC.region <| sv (vmP rfl) <| sv (vnil rfl) <| sv (vfldpz fl70f0 rfl) <| sv (vldc pl66 rfl) <| sv (vmI rfl) <| sv (vix1 Try.underlying66 sz32 rfl rfl (by omega) (by omega) (RdC.of_row (c := b.lc) (s := 1) (e := 32) (vs := nptr (s.nodes.map Prod.fst)) (by simp)) (by omega)) <| sv (vldo pl32 rfl (RdC.of_row (c := b.lc) (s := 1) (e := 32) (vs := nptr (s.nodes.map Prod.fst)) (by simp)) hnp) <| clx (by repeat' (first | with_reducible exact Sb.all | exact Sb.nil | (apply Sb.cons; focus (first | ((repeat (first | with_reducible exact Tk.here | with_reducible apply Tk.there)); done) | ((repeat (first | exact Tk.here | apply Tk.there)); done))) | apply Sb.drop)) (raft_propose_err (x := q.2) (d := pB) hpe) ct21 rfl fun r33 hr33 => ?_
              refine WL.perm (A' := hnet p s :: row none 0 9 28 (mvs []) :: mrows [] :: R) ?_ (fun w h => (no_mails (hnet_close hq hb (Sb.own (by repeat' (first | with_reducible exact Sb.all | exact Sb.nil | (apply Sb.cons; focus (first | ((repeat (first | with_reducible exact Tk.here | with_reducible apply Tk.there)); done) | ((repeat (first | exact Tk.here | apply Tk.there)); done))) | apply Sb.drop)) h))).ix [2, 0, 1])
              refine sv vmv <| sv (vex rfl rfl) <| sv (vex rfl rfl) <| sv (vex rfl rfl) <| sv (vaI rfl) <| sv (vaS rfl) <| sv (vaI rfl) <| WL.nil <| WX.thenN <| WC.region <| sv (vmP rfl) <| sv (vmS rfl) <| clx (by repeat' (first | with_reducible exact Sb.all | exact Sb.nil | (apply Sb.cons; focus (first | ((repeat (first | with_reducible exact Tk.here | with_reducible apply Tk.there)); done) | ((repeat (first | exact Tk.here | apply Tk.there)); done))) | apply Sb.drop)) (net_send (s := s) (l := []) hml (by decide)) ct55 rfl fun r34 hr34 => ?_
              exact WL.nil <| WX.blockN <| WX.thenN <| WC.seq <| WC.region <| sv (vaB rfl) <| WL.nil <| WX.thenN <| WC.ret <| WX.ret1 rfl (s) (do_noprop h9 hj hq hpe) rfl (fun w h => by have e : { s with mails := sendN s.mails [] } = s := by { unfold sendN; rw [List.take_nil, List.append_nil] }; rw [e] at h; exact h)
          · -- else
            exact WC.skip <| WX.blockN <| WX.thenN <| WC.seq <| WC.region <| sv (vaB rfl) <| WL.nil <| WX.thenN <| WC.ret <| WX.ret1 rfl (s) (do_none (.inr (by omega))) rfl (fun w h => hnet_close hq hb (Sb.own (by repeat' (first | with_reducible exact Sb.all | exact Sb.nil | (apply Sb.cons; focus (first | ((repeat (first | with_reducible exact Tk.here | with_reducible apply Tk.there)); done) | ((repeat (first | exact Tk.here | apply Tk.there)); done))) | apply Sb.drop)) h))
end Go.Proofs.Ytekoilhjlofncaa
