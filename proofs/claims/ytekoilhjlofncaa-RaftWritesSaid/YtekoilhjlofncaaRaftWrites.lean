/-
  Layer 19: a node that leads writes behind what it has, and sends what is in its log.
-/
import Derived.Test.YtekoilhjlofncaaRaftWriteA
set_option linter.unusedVariables false
set_option linter.unusedSimpArgs false
set_option maxRecDepth 4000
namespace Go.Proofs.Ytekoilhjlofncaa
open Go.Sl Go.RowKit Go.Raft

theorem map_at {α β : Type} {f : α → β} {l : List α} {j : Nat} {y : β} (h : (l.map f)[j]? = some y) : ∃ q, l[j]? = some q ∧ f q = y := by
  rw [List.getElem?_map] at h
  obtain ⟨q, hq, h⟩ := Option.map_eq_some_iff.1 h
  exact ⟨q, hq, h⟩
theorem walk_writes {w0 : World} {A : List HProp} {n : Int} (hn : -9223372036854775808 ≤ n ∧ n ≤ 9223372036854775807) (o : Sla AV) (ho : Rd w0 o.base (o.xs.flatMap cellA)) (hx : ∀ y ∈ o.xs, -9223372036854775808 ≤ y.2.1 ∧ y.2.1 ≤ 9223372036854775807) :
    Fun Try.prog w0 7 [.int .i64 n, .slice o.base o.xs.length o.cap] A (Ret w0 (fun _ : Unit => True) (fun _ => .bool true) (fun _ => A)) := by
  have hfl : (o.xs.flatMap cellA).length = o.xs.length * 2 := flat_len (fun _ _ => rfl)
  obtain ⟨N, hN⟩ : ∃ N : Nat, 1 + pickN n 5 = (N : Int) := ⟨(1 + pickN n 5).toNat, by have := (pickN_bound (c := n) (n := 5) (by omega)).1; omega⟩
  have hN5 : 1 ≤ N ∧ N ≤ 5 := by have := pickN_bound (c := n) (n := 5) (by omega); omega
  refine Fun.enter Try.func7 rfl Try.ntmps7 rfl ?_
  refine WC.seq <| WC.region <| sv (vaB rfl) <| WL.nil <| WX.thenN <| WC.seq <| WC.seq <| WC.region <| sv (vmS rfl) <| sv (vlen Try.underlying57 rfl) <| sv (vgt rfl rfl) <| WL.nil <| WX.thenN <| ?_
  refine WC.ite rfl (fun h1 => ?_) (fun h1 => ?_)
  · -- then
    exact WC.seq <| WC.region <| sv (vaB rfl) <| WL.nil <| WX.thenN <| WC.ret <| WX.thenR <| WX.ret1 rfl (()) (trivial) rfl (fun _ h => Sb.own (by repeat' (first | with_reducible exact Sb.all | exact Sb.nil | (apply Sb.cons; focus (first | ((repeat (first | with_reducible exact Tk.here | with_reducible apply Tk.there)); done) | ((repeat (first | exact Tk.here | apply Tk.there)); done))) | apply Sb.drop)) h)
  · -- else
    refine WC.skip <| WX.thenN <| WC.seq <| WC.region <| sv (vmI rfl) <| clx (by repeat' (first | with_reducible exact Sb.all | exact Sb.nil | (apply Sb.cons; focus (first | ((repeat (first | with_reducible exact Tk.here | with_reducible apply Tk.there)); done) | ((repeat (first | exact Tk.here | apply Tk.there)); done))) | apply Sb.drop)) (law_pick (by omega) hn) ct28 rfl fun r1 hr1 => ?_
    refine sv (vw (v' := .int .i64 (N : Int)) (vadd rfl rfl (by omega)) (iv (by omega))) <| clx (by repeat' (first | with_reducible exact Sb.all | exact Sb.nil | (apply Sb.cons; focus (first | ((repeat (first | with_reducible exact Tk.here | with_reducible apply Tk.there)); done) | ((repeat (first | exact Tk.here | apply Tk.there)); done))) | apply Sb.drop)) (net_safe0 hN5.1 hN5.2) ct27 rfl fun r3 hr3 => ?_
    refine sv (vaP rfl) <| WL.nil <| WX.thenN <| WC.seq <| WC.seq <| WC.region <| sv (vmP rfl) <| sv (vpeqF Try.underlying58 rfl rfl) <| WL.nil <| WX.thenN <| ?_
    refine WC.ff rfl ?_
    refine WC.skip <| WX.thenN <| WC.seq <| WC.seq <| WC.region <| sv (vaI rfl) <| WL.nil <| WX.thenN <| WC.block <| ?_
    refine WC.loop (ι := Nat) (fun i => [(6, .int .i64 i)]) [(1, .slice _ _ _), (5, .pointer _)] (fun i => hsafe r3 i 0 :: A) (fun i => i ≤ o.xs.length) (fun i => o.xs.length - i) (0) (by omega) ⟨rfl, trivial⟩ ⟨rfl, rfl, trivial⟩ (fun _ h => Sb.own (by repeat' (first | with_reducible exact Sb.all | exact Sb.nil | (apply Sb.cons; focus (first | ((repeat (first | with_reducible exact Tk.here | with_reducible apply Tk.there)); done) | ((repeat (first | exact Tk.here | apply Tk.there)); done))) | apply Sb.drop)) h) ?_
    intro i hi ρh
    refine WC.seq <| WC.seq <| WC.region <| sv (vmI rfl) <| sv (vmS rfl) <| sv (vlen Try.underlying57 rfl) <| sv (vlt rfl rfl) <| WL.nil <| WX.thenN <| ?_
    refine WC.ite rfl (fun h3 => ?_) (fun h3 => ?_)
    · -- then
      have hil : i < o.xs.length := by omega
      obtain ⟨a, ha⟩ : ∃ a, o.xs[i]? = some a := ⟨_, List.getElem?_eq_getElem hil⟩
      have hai := hx a (List.mem_of_getElem? ha)
      have hpos : 0 < (o.xs.flatMap cellA).length := by omega
      have hag : ((o.xs.flatMap cellA).drop (((i : Int)).toNat * 2)).take 2 = cellA a := by rw [Int.toNat_natCast, flat_take (f := cellA) (s := 2) (fun _ _ => rfl) hil, (List.getElem?_eq_some_iff.1 ha).2]
      refine WC.ex (B := fun j : NS × Gh => hnet r3 j.1 :: A) (fun w h => hsafe_open h) ?_
      rintro ⟨s, g⟩ hsb
      dsimp only at hsb ⊢
      refine WC.ex (B := fun b => netL3 r3 s b A) (fun w h => hnet_open h) ?_
      intro b hb
      dsimp only [netL3]
      have hbl := hb.l
      have hs1 := hsb.safe.net.n1
      have hs5 := hsb.safe.net.n5
      have hsm := hsb.safe.net.len
      rw [nsL_length] at hs1 hs5
      rw [nsM_length] at hsm
      obtain ⟨j, hj⟩ : ∃ j : Nat, pickN a.2.1 s.nodes.length = (j : Int) := ⟨(pickN a.2.1 s.nodes.length).toNat, by have := (pickN_bound (c := a.2.1) (n := s.nodes.length) (by omega)).1; omega⟩
      have hjl : j < s.nodes.length := by have := (pickN_bound (c := a.2.1) (n := s.nodes.length) (by omega)).2; omega
      obtain ⟨q, hq⟩ : ∃ q, s.nodes[j]? = some q := ⟨_, List.getElem?_eq_getElem hjl⟩
      have hqn : (nsL s)[j]? = some q.2 := by unfold nsL; rw [List.getElem?_map, hq]; rfl
      have hqx : RInv q.2 := (hsb.safe.net.node hqn).inv
      have hqid : q.2.id = (j : Int) + 1 := (hsb.safe.net.node hqn).id
      have hql := hqx.log
      have hln : (nptr (s.nodes.map Prod.fst)).length = s.nodes.length := by rw [nptr_length, List.length_map]
      have hnp : (nptr (s.nodes.map Prod.fst))[((j : Int)).toNat]? = some (.pointer (some ⟨q.1, 0, none⟩)) := nptr_at (by rw [List.getElem?_map, hq]; rfl)
      refine WC.skip <| WX.thenN <| WC.seq <| WC.block <| WC.seq <| WC.region <| sv (vmS rfl) <| sv (vmI rfl) <| sv (vix Try.underlying57 sz63 rfl rfl (by omega) (by omega) (RdC.old ho) hpos) <| sv (vlda ag63 sz63 rfl (RdC.old ho) hag rfl (by decide)) <| alz (cs := [.int .i64 0, .int .i64 0]) zt63 (by rfl) fun b7 => stAp sz63 rfl rfl rfl (by intro v hv; simp only [List.mem_cons, List.not_mem_nil, or_false] at hv; rcases hv with rfl | rfl <;> rfl) rfl <| WL.nil <| WX.thenN <| WC.seq <| WC.draws rfl (by kernel_rfl) <| qv (vfldp fl63f1 rfl) <| qv (vldc pl3 rfl) <| qv (vmP rfl) <| qv (vnil rfl) <| qv (vfldpz fl70f0 rfl) <| qv (vldc pl66 rfl) <| qv (vlen Try.underlying66 rfl) <| qcl (Fun.quiet (law_pick_at hj (by omega) hai)) ct28 rfl <| qv (vaI rfl) <| WQ.nil <| WX.thenN <| WC.seq <| WC.region <| sv (vmP rfl) <| sv (vnil rfl) <| sv (vfldp fl70f1 rfl) <| sv (vldc pl43 rfl) <| sv (vlen Try.underlying43 rfl) <| sv (vaI rfl) <| WL.nil <| WX.thenN <| WC.seq <| WC.region <| sv (vmP rfl) <| sv (vnil rfl) <| sv (vfldpz fl70f0 rfl) <| sv (vldc pl66 rfl) <| sv (vmI rfl) <| sv (vix1 Try.underlying66 sz32 rfl rfl (by omega) (by omega) (RdC.of_row (c := b.lc) (s := 1) (e := 32) (vs := nptr (s.nodes.map Prod.fst)) (by simp)) (by omega)) <| sv (vldo pl32 rfl (RdC.of_row (c := b.lc) (s := 1) (e := 32) (vs := nptr (s.nodes.map Prod.fst)) (by simp)) hnp) <| clx (by repeat' (first | with_reducible exact Sb.all | exact Sb.nil | (apply Sb.cons; focus (first | ((repeat (first | with_reducible exact Tk.here | with_reducible apply Tk.there)); done) | ((repeat (first | exact Tk.here | apply Tk.there)); done))) | apply Sb.drop)) (stable_in hq hqx) ct23 rfl fun r16 hr16 => ?_
      refine alz (cs := [.int .i64 0, .int .i64 0, .slice none 0 0]) zt24 (by rfl) fun b17 => stAp sz24 rfl rfl rfl (by intro v hv; simp only [List.mem_cons, List.not_mem_nil, or_false] at hv; rcases hv with rfl | rfl | rfl <;> rfl) rfl <| WL.nil <| WX.thenN <| WC.seq <| WC.region <| sv (vmP rfl) <| sv (vnil rfl) <| sv (vfldpz fl70f0 rfl) <| sv (vldc pl66 rfl) <| sv (vmI rfl) <| sv (vix1 Try.underlying66 sz32 rfl rfl (by omega) (by omega) (RdC.of_row (c := b.lc) (s := 1) (e := 32) (vs := nptr (s.nodes.map Prod.fst)) (by simp)) (by omega)) <| sv (vldo pl32 rfl (RdC.of_row (c := b.lc) (s := 1) (e := 32) (vs := nptr (s.nodes.map Prod.fst)) (by simp)) hnp) <| clx (by repeat' (first | with_reducible exact Sb.all | exact Sb.nil | (apply Sb.cons; focus (first | ((repeat (first | with_reducible exact Tk.here | with_reducible apply Tk.there)); done) | ((repeat (first | exact Tk.here | apply Tk.there)); done))) | apply Sb.drop)) (role_in hq) ct25 rfl fun r22 hr22 => ?_
      refine sv (veq rfl rfl) <| sv (vaB rfl) <| WL.nil <| WX.thenN <| WC.seq <| WC.seq <| WC.region <| sv (vmP rfl) <| sv (vldac ag63 sz63 rfl rfl (by decide)) <| pm (fun _ h => (show Own w0 (hnet r3 s :: row r16.1 r16.2 2 39 (cvs q.2.log) :: cel b17 [.int .i64 q.2.term, .int .i64 q.2.vote, .slice r16.1 q.2.log.length r16.2] 24 :: cel b7 (cellA a) 63 :: A) _ from hnet_mk3 hb (Sb.own (by repeat' (first | with_reducible exact Sb.all | exact Sb.nil | (apply Sb.cons; focus (first | ((repeat (first | with_reducible exact Tk.here | with_reducible apply Tk.there)); done) | ((repeat (first | exact Tk.here | apply Tk.there)); done))) | apply Sb.drop)) h))) <| clx (by repeat' (first | with_reducible exact Sb.all | exact Sb.nil | (apply Sb.cons; focus (first | ((repeat (first | with_reducible exact Tk.here | with_reducible apply Tk.there)); done) | ((repeat (first | exact Tk.here | apply Tk.there)); done))) | apply Sb.drop)) (net_do (c := (i : Int)) hsb.safe.net.ok ⟨by omega, by omega⟩ hai) ct29 rfl fun r24 hr24 => ?_
      obtain ⟨g', hg⟩ := hsb.safe.step (by omega) hr24
      have hB : SafeB r24 (i + 1) 0 g' := ⟨by exact_mod_cast hg, by rw [hr24.led]; exact hsb.led, by rw [hr24.done]; exact hsb.done⟩
      refine sv (vnot rfl) <| WL.nil <| WX.thenN <| ?_
      refine WC.ff rfl ?_
      refine WC.skip <| WX.thenN <| WC.seq <| ?_
      refine WC.cutS [(75, .bool (decide (a.1 ≠ 0 ∧ a.1 ≠ 5)))] [(1, .slice _ _ _), (5, .pointer _), (6, .int _ _), (8, .int _ _), (9, .int _ _), (10, _), (11, .bool _)] ⟨rfl, rfl, rfl, rfl, rfl, rfl, rfl, trivial⟩ ?_ fun ρh => ?_
      · -- more.go:68
        refine WC.region <| sv (vfldpz fl63f0 rfl) <| sv (vldc pl3 rfl) <| svs (vne rfl rfl) (fun q1 => ?_) (fun q1 => ?_)
        ·
          exact sv (vmB rfl) <| svg rfl (vfldpz fl63f0 rfl) <| svg rfl (vldc pl3 rfl) <| svg rfl (vne rfl rfl) <| sv (vpkt rfl) <| WL.nil <| WX.mid () trivial ⟨bI (by first | omega | simp_all | grind), trivial⟩ ⟨rfl, rfl, rfl, rfl, rfl, rfl, rfl, trivial⟩ (fun _ h => Sb.own (by repeat' (first | with_reducible exact Sb.all | exact Sb.nil | (apply Sb.cons; focus (first | ((repeat (first | with_reducible exact Tk.here | with_reducible apply Tk.there)); done) | ((repeat (first | exact Tk.here | apply Tk.there)); done))) | apply Sb.drop)) h)
        ·
          exact sv (vmB rfl) <| sng rfl <| sng rfl <| sng rfl <| sv (vpkf rfl) <| WL.nil <| WX.mid () trivial ⟨bF (by first | omega | simp_all | grind), trivial⟩ ⟨rfl, rfl, rfl, rfl, rfl, rfl, rfl, trivial⟩ (fun _ h => Sb.own (by repeat' (first | with_reducible exact Sb.all | exact Sb.nil | (apply Sb.cons; focus (first | ((repeat (first | with_reducible exact Tk.here | with_reducible apply Tk.there)); done) | ((repeat (first | exact Tk.here | apply Tk.there)); done))) | apply Sb.drop)) h)
      refine WC.ite rfl (fun h5 => ?_) (fun h5 => ?_)
      · -- then
        exact WC.exit <| WX.thenE <| WX.blockH <| WX.thenN <| WC.region <| sv (vmI rfl) <| sv (vadd rfl rfl (by omega)) <| sv (vaI rfl) <| WL.nil <| WX.again (i + 1) (by omega) (by omega) ⟨rfl, trivial⟩ ⟨rfl, rfl, trivial⟩ (fun w h => hsafe_mk hB (Sb.own (by repeat' (first | with_reducible exact Sb.all | exact Sb.nil | (apply Sb.cons; focus (first | ((repeat (first | with_reducible exact Tk.here | with_reducible apply Tk.there)); done) | ((repeat (first | exact Tk.here | apply Tk.there)); done))) | apply Sb.drop)) h))
      · -- else
        obtain ⟨y, hy, hyid, hwr⟩ := doS_writes (k := a.1) (i := a.2.1) (ms := nsM s) (by omega) (by rw [nsL_length]; exact hj) hqn hqx
        rw [← hr24.d] at hy hwr
        dsimp only at hy hwr
        rw [nsM_length] at hwr
        have hyx : RInv y := (hB.safe.net.node hy).inv
        have hyl := hyx.log
        obtain ⟨z2, hq2, hq2y⟩ := map_at hy
        have h25 := hB.safe.net.n5
        have h2m := hB.safe.net.len
        rw [nsL_length] at h25
        rw [nsM_length] at h2m
        refine WC.ex (B := fun b => netL3 r3 r24 b (row r16.1 r16.2 2 39 (cvs q.2.log) :: cel b17 [.int .i64 q.2.term, .int .i64 q.2.vote, .slice r16.1 q.2.log.length r16.2] 24 :: cel b7 (cellA a) 63 :: A)) (fun w h => hnet_open h) ?_
        intro c hc
        dsimp only [netL3]
        have hcl := hc.l
        have hcm := hc.m
        have hjl2 : j < r24.nodes.length := (List.getElem?_eq_some_iff.1 hq2).1
        have hln2 : (nptr (r24.nodes.map Prod.fst)).length = r24.nodes.length := by rw [nptr_length, List.length_map]
        have hnp2 : (nptr (r24.nodes.map Prod.fst))[((j : Int)).toNat]? = some (.pointer (some ⟨z2.1, 0, none⟩)) := nptr_at (by rw [List.getElem?_map, hq2]; rfl)
        subst hq2y
        have hrt : ∀ {B : List HProp} {q' : Option Addr} [Reads w0 B q' (cvs z2.2.log)], RdC w0 B q' (cvs (z2.2.log.take q.2.log.length)) := fun {B q'} _ => by
          have := (reads (w0 := w0) (A := B) (base := q') (vs := cvs z2.2.log)).take (q.2.log.length * 2)
          rwa [cvs_take] at this
        refine WC.skip <| WX.thenN <| WC.seq <| WC.region <| sv (vmP rfl) <| sv (vnil rfl) <| sv (vfldpz fl70f0 rfl) <| sv (vldc pl66 rfl) <| sv (vmI rfl) <| sv (vix1 Try.underlying66 sz32 rfl rfl (by omega) (by omega) (RdC.of_row (c := c.lc) (s := 1) (e := 32) (vs := nptr (r24.nodes.map Prod.fst)) (by simp)) (by omega)) <| sv (vldo pl32 rfl (RdC.of_row (c := c.lc) (s := 1) (e := 32) (vs := nptr (r24.nodes.map Prod.fst)) (by simp)) hnp2) <| clx (by repeat' (first | with_reducible exact Sb.all | exact Sb.nil | (apply Sb.cons; focus (first | ((repeat (first | with_reducible exact Tk.here | with_reducible apply Tk.there)); done) | ((repeat (first | exact Tk.here | apply Tk.there)); done))) | apply Sb.drop)) (stable_in hq2 hyx) ct23 rfl fun r30 hr30 => ?_
        refine alz (cs := [.int .i64 0, .int .i64 0, .slice none 0 0]) zt24 (by rfl) fun b31 => stAp sz24 rfl rfl rfl (by intro v hv; simp only [List.mem_cons, List.not_mem_nil, or_false] at hv; rcases hv with rfl | rfl | rfl <;> rfl) rfl <| WL.nil <| WX.thenN <| WC.seq <| ?_
        refine WC.cutS [(105, .bool false)] [(1, .slice _ _ _), (5, .pointer _), (6, .int _ _), (8, .int _ _), (9, .int _ _), (12, _)] ⟨rfl, rfl, rfl, rfl, rfl, rfl, trivial⟩ ?_ fun ρh => ?_
        · -- more.go:72
          refine WC.draws rfl (by kernel_rfl) <| qvb (vmB rfl) (fun q2 => ?_) (fun q2 => ?_)
          ·
            refine qv (vmB rfl) <| qvg rfl (vfldp fl24f2 rfl) <| qvg rfl (vldc pl22 rfl) <| qvg rfl (vlen Try.underlying22 rfl) <| qvg rfl (vfldp fl24f2 rfl) <| qvg rfl (vldc pl22 rfl) <| qvg rfl (vlen Try.underlying22 rfl) <| qvsg rfl (vlt rfl rfl) (fun q3 => ?_) (fun q3 => ?_)
            ·
              exact qvg rfl (vmB rfl) <| qng rfl <| qng rfl <| qng rfl <| qng rfl <| qng rfl <| qng rfl <| qng rfl <| qng rfl <| qng rfl <| qng rfl <| qvg rfl (vpkt rfl) <| qv (vpkt rfl) <| WQ.nil <| WX.mid () trivial ⟨by exact absurd q3 (by have := hwr.pre (of_decide_eq_true q2); omega), trivial⟩ ⟨rfl, rfl, rfl, rfl, rfl, rfl, trivial⟩ (fun _ h => Sb.own (by repeat' (first | with_reducible exact Sb.all | exact Sb.nil | (apply Sb.cons; focus (first | ((repeat (first | with_reducible exact Tk.here | with_reducible apply Tk.there)); done) | ((repeat (first | exact Tk.here | apply Tk.there)); done))) | apply Sb.drop)) h)
            ·
              exact qvg rfl (vmB rfl) <| qvg rfl (vfldp fl24f2 rfl) <| qvg rfl (vldc pl22 rfl) <| qvg rfl (vfldp fl24f2 rfl) <| qvg rfl (vldc pl22 rfl) <| qvg rfl (vlen Try.underlying22 rfl) <| qvg rfl (vw (v' := .slice r30.1 (z2.2.log.take q.2.log.length).length r30.2) (vslH Try.underlying22 sz39 rfl rfl (by omega) (by have := hwr.pre (of_decide_eq_true q2); omega)) (by rw [List.length_take, Nat.min_eq_left (hwr.pre (of_decide_eq_true q2)).2]; rfl)) <| qvg rfl (vfldp fl24f2 rfl) <| qvg rfl (vldc pl22 rfl) <| qclg rfl (Fun.quiet (ref_samecells_eq (k := z2.2.log.take q.2.log.length) (l := q.2.log) (hR := ⟨hrt⟩) (by rw [List.length_take]; omega) (hwr.pre (of_decide_eq_true q2)).1)) ct19 rfl <| qvg rfl (vnot rfl) <| qvg rfl (vpkf rfl) <| qv (vpkt rfl) <| WQ.nil <| WX.mid () trivial ⟨rfl, trivial⟩ ⟨rfl, rfl, rfl, rfl, rfl, rfl, trivial⟩ (fun _ h => Sb.own (by repeat' (first | with_reducible exact Sb.all | exact Sb.nil | (apply Sb.cons; focus (first | ((repeat (first | with_reducible exact Tk.here | with_reducible apply Tk.there)); done) | ((repeat (first | exact Tk.here | apply Tk.there)); done))) | apply Sb.drop)) h)
          ·
            exact qv (vmB rfl) <| qng rfl <| qng rfl <| qng rfl <| qng rfl <| qng rfl <| qng rfl <| qng rfl <| qng rfl <| qng rfl <| qng rfl <| qng rfl <| qng rfl <| qng rfl <| qng rfl <| qng rfl <| qng rfl <| qng rfl <| qng rfl <| qng rfl <| qv (vpkf rfl) <| WQ.nil <| WX.mid () trivial ⟨rfl, trivial⟩ ⟨rfl, rfl, rfl, rfl, rfl, rfl, trivial⟩ (fun _ h => Sb.own (by repeat' (first | with_reducible exact Sb.all | exact Sb.nil | (apply Sb.cons; focus (first | ((repeat (first | with_reducible exact Tk.here | with_reducible apply Tk.there)); done) | ((repeat (first | exact Tk.here | apply Tk.there)); done))) | apply Sb.drop)) h)
        refine WC.ff rfl ?_
        refine WC.skip <| WX.thenN <| WC.seq <| WC.region <| sv (vmI rfl) <| sv (vaI rfl) <| WL.nil <| WX.thenN <| WC.block <| ?_
        refine WC.loopS (ι := Nat) (fun i => [(13, .int .i64 i)]) [(1, .slice _ _ _), (5, .pointer _), (6, .int _ _), (8, .int _ _), (12, _)] (fun i => s.mails.length ≤ i) (fun i => r24.mails.length - i) (s.mails.length) (by omega) ⟨rfl, trivial⟩ ⟨rfl, rfl, rfl, rfl, rfl, trivial⟩ ?_
        intro k hk ρh
        refine WC.seq <| WC.seq <| WC.region <| sv (vmI rfl) <| sv (vmP rfl) <| sv (vnil rfl) <| sv (vfldp fl70f1 rfl) <| sv (vldc pl43 rfl) <| sv (vlen Try.underlying43 rfl) <| sv (vlt rfl rfl) <| WL.nil <| WX.thenN <| ?_
        refine WC.ite rfl (fun h7 => ?_) (fun h7 => ?_)
        · -- then
          have hkl : k < r24.mails.length := by omega
          obtain ⟨m, hm⟩ : ∃ m, r24.mails[k]? = some m := ⟨_, List.getElem?_eq_getElem hkl⟩
          have hW : WrM z2.2 m.ml := hwr.new k m.ml (by omega) (by unfold nsM; rw [List.getElem?_map, hm]; rfl)
          have hW1 : m.fr = (j : Int) + 1 := hW.fr.trans (hyid.trans hqid)
          have hW2 : m.term = z2.2.term := hW.term
          have hlv := mvs_length r24.mails
          have hpos3 : 0 < (mvs r24.mails).length := by omega
          have hag3 : ((mvs r24.mails).drop (((k : Int)).toNat * 9)).take 9 = mv m := by rw [Int.toNat_natCast]; exact mvs_take9 hm
          refine WC.skip <| WX.thenN <| WC.seq <| WC.block <| WC.seq <| WC.region <| sv (vmP rfl) <| sv (vnil rfl) <| sv (vfldp fl70f1 rfl) <| sv (vldc pl43 rfl) <| sv (vmI rfl) <| sv (vix Try.underlying43 sz28 rfl rfl (by omega) (by omega) (RdC.of_row (c := c.mc) (s := 9) (e := 28) (vs := mvs r24.mails) (by simp)) hpos3) <| sv (vlda ag28 sz28 rfl (RdC.of_row (c := c.mc) (s := 9) (e := 28) (vs := mvs r24.mails) (by simp)) hag3 rfl (by decide)) <| alz (cs := [.int .i64 0, .int .i64 0, .int .i64 0, .int .i64 0, .int .i64 0, .int .i64 0, .int .i64 0, .bool false, .slice none 0 0]) zt28 (by rfl) fun b44 => stAp sz28 rfl rfl rfl (by intro v hv; simp only [List.mem_cons, List.not_mem_nil, or_false] at hv; rcases hv with rfl | rfl | rfl | rfl | rfl | rfl | rfl | rfl | rfl <;> rfl) rfl <| WL.nil <| WX.thenN <| ?_
          refine WC.cutS [(146, .bool false)] [(1, .slice _ _ _), (5, .pointer _), (6, .int _ _), (8, .int _ _), (12, _), (13, .int _ _)] ⟨rfl, rfl, rfl, rfl, rfl, rfl, trivial⟩ ?_ fun ρh => ?_
          · -- more.go:77
            refine WC.region <| sv (vfldp fl28f1 rfl) <| sv (vldc pl3 rfl) <| sv (vmI rfl) <| sv (vadd rfl rfl (by omega)) <| sv (vF (vne rfl rfl) (by omega)) <| sv (vmB rfl) <| svg rfl (vfldp fl28f3 rfl) <| svg rfl (vldc pl3 rfl) <| svg rfl (vfldpz fl24f0 rfl) <| svg rfl (vldc pl3 rfl) <| svg rfl (vF (vne rfl rfl) (by omega)) <| sv (vpkf rfl) <| sv (vmB rfl) <| svg rfl (vfldpz fl28f0 rfl) <| svg rfl (vldc pl3 rfl) <| svsg rfl (veq rfl rfl) (fun q4 => ?_) (fun q4 => ?_)
            ·
              refine svg rfl (vmB rfl) <| svg rfl (vfldp fl24f2 rfl) <| svg rfl (vldc pl22 rfl) <| svg rfl (vldac ag28 sz28 rfl rfl (by decide)) <| gy rfl <| clx (by repeat' (first | with_reducible exact Sb.all | exact Sb.nil | (apply Sb.cons; focus (first | ((repeat (first | with_reducible exact Tk.here | with_reducible apply Tk.there)); done) | ((repeat (first | exact Tk.here | apply Tk.there)); done))) | apply Sb.drop)) (law_inlog (by omega) hr30 (hW.app (show m.kind = 3 by omega)) (mrows_rd (ms := r24.mails) (by simp) (List.mem_of_getElem? hm))) ct31 rfl fun r53 hr53 => ?_
              exact svg rfl (vnot rfl) <| svg rfl (vpkt rfl) <| sv (vpkf rfl) <| WL.nil <| WX.mid () trivial ⟨rfl, trivial⟩ ⟨rfl, rfl, rfl, rfl, rfl, rfl, trivial⟩ (fun _ h => Sb.own (by repeat' (first | with_reducible exact Sb.all | exact Sb.nil | (apply Sb.cons; focus (first | ((repeat (first | with_reducible exact Tk.here | with_reducible apply Tk.there)); done) | ((repeat (first | exact Tk.here | apply Tk.there)); done))) | apply Sb.drop)) h)
            ·
              exact svg rfl (vmB rfl) <| sng rfl <| sng rfl <| sng rfl <| sng rfl <| sng rfl <| svg rfl (vpkf rfl) <| sv (vpkf rfl) <| WL.nil <| WX.mid () trivial ⟨rfl, trivial⟩ ⟨rfl, rfl, rfl, rfl, rfl, rfl, trivial⟩ (fun _ h => Sb.own (by repeat' (first | with_reducible exact Sb.all | exact Sb.nil | (apply Sb.cons; focus (first | ((repeat (first | with_reducible exact Tk.here | with_reducible apply Tk.there)); done) | ((repeat (first | exact Tk.here | apply Tk.there)); done))) | apply Sb.drop)) h)
          refine WC.ff rfl ?_
          exact WC.skip <| WX.blockN <| WX.thenN <| WC.region <| sv (vmI rfl) <| sv (vadd rfl rfl (by omega)) <| sv (vaI rfl) <| WL.nil <| WX.again (k + 1) (by omega) (by omega) ⟨rfl, trivial⟩ ⟨rfl, rfl, rfl, rfl, rfl, trivial⟩ (fun _ h => Sb.own (by repeat' (first | with_reducible exact Sb.all | exact Sb.nil | (apply Sb.cons; focus (first | ((repeat (first | with_reducible exact Tk.here | with_reducible apply Tk.there)); done) | ((repeat (first | exact Tk.here | apply Tk.there)); done))) | apply Sb.drop)) h)
        · -- else
          exact WC.exit <| WX.thenE <| WX.thenE <| WX.blockH <| WX.blockN <| WX.thenN <| WC.region <| sv (vmI rfl) <| sv (vadd rfl rfl (by omega)) <| sv (vaI rfl) <| WL.nil <| WX.again (i + 1) (by omega) (by omega) ⟨rfl, trivial⟩ ⟨rfl, rfl, trivial⟩ (fun w h => hsafe_mk hB (hnet_mk3 hc (Sb.own (by repeat' (first | with_reducible exact Sb.all | exact Sb.nil | (apply Sb.cons; focus (first | ((repeat (first | with_reducible exact Tk.here | with_reducible apply Tk.there)); done) | ((repeat (first | exact Tk.here | apply Tk.there)); done))) | apply Sb.drop)) h)))
    · -- else
      refine WC.exit <| WX.thenE <| WX.thenE <| WX.blockH <| WX.thenN <| WC.seq <| WC.region <| clx (by repeat' (first | with_reducible exact Sb.all | exact Sb.nil | (apply Sb.cons; focus (first | ((repeat (first | with_reducible exact Tk.here | with_reducible apply Tk.there)); done) | ((repeat (first | exact Tk.here | apply Tk.there)); done))) | apply Sb.drop)) (law_awake) ct12 rfl fun r56 hr56 => ?_
      exact sv (vaB rfl) <| WL.nil <| WX.thenN <| WC.ret <| WX.ret1 rfl (()) (trivial) rfl (fun _ h => Sb.own (by repeat' (first | with_reducible exact Sb.all | exact Sb.nil | (apply Sb.cons; focus (first | ((repeat (first | with_reducible exact Tk.here | with_reducible apply Tk.there)); done) | ((repeat (first | exact Tk.here | apply Tk.there)); done))) | apply Sb.drop)) h)
end Go.Proofs.Ytekoilhjlofncaa
