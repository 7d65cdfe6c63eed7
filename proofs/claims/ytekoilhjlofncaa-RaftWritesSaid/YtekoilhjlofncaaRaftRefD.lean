/-
  Layer 19's reference: time goes by; one more cell; replies.
-/
import Derived.Test.YtekoilhjlofncaaRaftRefC
set_option linter.unusedVariables false
set_option linter.unusedSimpArgs false
set_option maxRecDepth 4000
namespace Go.Proofs.Ytekoilhjlofncaa
open Go.Sl Go.RowKit Go.Raft

theorem ref_reply {w0 : World} {A : List HProp} {p c : Nat} {base : Option Addr} {x : Rn} {V : Nat → Bool} {N M : Nat → Int} {k at_ : Int} {ok : Bool} [hc : CelAt A p (rcells x base c V N M) 54] :
    Fun Try.prog w0 64 [.pointer (some ⟨p, 0, none⟩), .int .i64 k, .bool ok, .int .i64 at_] A (Ret w0 (fun _ : Nat => True) (fun b => .slice (some ⟨b, 0, none⟩) 1 1) (fun b => cel b (mv (replyH x k ok at_)) 28 :: A)) := by
  refine Fun.enter Try.func64 rfl Try.ntmps64 rfl ?_
  exact WC.seq <| WC.region <| sv (vaS rfl) <| WL.nil <| WX.thenN <| WC.seq <| WC.plan (.bar [0, 1, 2, 3, 4, 5, 6, 7, 8, 9, 10, 11, 12] 13 (.done [14])) rfl (by kernel_rfl) <| WPl.barC <| dv (fun g => (vmP rfl)) <| dv (fun g => (vnil rfl)) <| dv (fun g => (vfldpz fl54f0 rfl)) <| dv (fun g => (vldc pl3 rfl)) <| dv (fun g => (vmI rfl)) <| dv (fun g => (vmP rfl)) <| dv (fun g => (vnil rfl)) <| dv (fun g => (vfldp fl54f2 rfl)) <| dv (fun g => (vfldpz fl24f0 rfl)) <| dv (fun g => (vldc pl3 rfl)) <| dv (fun g => (vmB rfl)) <| dv (fun g => (vmI rfl)) <| dv (fun g => (vbd (ps := [(0, (.int .i64 4)), (1, .int _ _), (2, .int _ _), (3, .int _ _), (7, .bool _), (4, .int _ _)]) (cs := [_, _, _, _, _, _, _, _, _]) bt28 zt28 rfl (by rfl))) <| WD.eff rfl <| bslA (v := .agg _) (cs := mv (replyH x k ok at_)) Try.underlying43 zt28 rfl rfl rfl (by decide) (by decide) fun b4 => WL.nil <| WX.brT <| WPl.finC <| dv (fun g => (vaS rfl)) <| WD.nil <| WX.thenN <| WC.ret <| WX.ret1 rfl (b4) (trivial) rfl (fun _ h => Sb.own (by repeat' (first | with_reducible exact Sb.all | exact Sb.nil | (apply Sb.cons; focus (first | ((repeat (first | with_reducible exact Tk.here | with_reducible apply Tk.there)); done) | ((repeat (first | exact Tk.here | apply Tk.there)); done))) | apply Sb.drop)) h)
theorem RelR.run {x : Rn} {N M : Nat → Int} (h : 1 ≤ x.id) : RelR (runS x) (updN (fun _ => false) x.id.toNat true) N M :=
  ⟨fun _ k h1 h5 => by
    show updN (fun _ => false) x.id.toNat true k = true ↔ (k : Int) ∈ [x.id]
    unfold updN
    by_cases he : k = x.id.toNat
    · rw [if_pos he]; simp; omega
    · rw [if_neg he]; simp; omega, fun h2 => absurd h2 (by show ¬ (1 : Int) = 2; decide)⟩
theorem ref_tick {w0 : World} {A : List HProp} {p : Nat} {x : Rn} (hx : RInv x) (hw : x.waited + 1 ≤ 9223372036854775807) :
    Fun Try.prog w0 16 [.pointer (some ⟨p, 0, none⟩)] (rnode p x :: A) (MRr w0 p A (tickS x)) := by
  refine Fun.ex (fun w h => rnode_open h) ?_
  rintro ⟨base, c, V, N, M⟩ ⟨hc, hrel⟩
  dsimp only at hc hrel ⊢
  have hs := hx.since
  have hn := hx.n
  have hl := hx.log
  have hid := hx.id
  have hw0 := hx.waited
  have htm := hx.term
  refine Fun.enter Try.func16 rfl Try.ntmps16 rfl ?_
  refine WC.seq <| WC.region <| sv (vaS rfl) <| WL.nil <| WX.thenN <| WC.seq <| WC.seq <| WC.region <| sv (vmP rfl) <| sv (vnil rfl) <| sv (vfldp fl54f3 rfl) <| sv (vldc pl3 rfl) <| sv (veq rfl rfl) <| WL.nil <| WX.thenN <| ?_
  refine WC.ite rfl (fun h1 => ?_) (fun h1 => ?_)
  · -- then
    have hpe := hx.peers h1
    refine WC.seq <| WC.region <| sv (vmP rfl) <| sv (vnil rfl) <| sv (vfldp fl54f10 rfl) <| sv (vldc pl3 rfl) <| sv (vadd rfl rfl (by omega)) <| sv (vnil rfl) <| sv (vfldp fl54f10 rfl) <| stp (v := .int _ _) pl3 sz3 rfl rfl rfl <| WL.nil <| WX.thenN <| WC.seq <| WC.seq <| WC.region <| sv (vmP rfl) <| sv (vnil rfl) <| sv (vfldp fl54f10 rfl) <| sv (vldc pl3 rfl) <| sv (vlt rfl rfl) <| WL.nil <| WX.thenN <| ?_
    refine WC.ite rfl (fun h2 => ?_) (fun h2 => ?_)
    · -- then
      rw [show tickS x = ({ x with since := x.since + 1 }, []) from (if_pos h1).trans (if_pos h2)]
      exact WC.seq <| WC.region <| sv (vaS rfl) <| WL.nil <| WX.thenN <| WC.ret <| WX.thenR <| WX.thenR <| WX.ret1 rfl ((none, 0, [])) (⟨rfl, Nat.le_refl _⟩) rfl (fun w h => no_mailsR (rnode_mk (x := { x with since := x.since + 1 }) hc (hrel.same rfl rfl ⟨rfl, rfl⟩ ⟨rfl, rfl⟩) h))
    · -- else
      rw [show tickS x = feedAllS { x with since := x.since + 1 } from (if_pos h1).trans (if_neg h2)]
      refine WC.perm (A' := rnode p { x with since := x.since + 1 } :: A) ?_ (fun w h => rnode_mk (x := { x with since := x.since + 1 }) hc (hrel.same rfl rfl ⟨rfl, rfl⟩ ⟨rfl, rfl⟩) h)
      refine WC.skip <| WX.thenN <| WC.seq <| WC.region <| sv (vmP rfl) <| clx (by repeat' (first | with_reducible exact Sb.all | exact Sb.nil | (apply Sb.cons; focus (first | ((repeat (first | with_reducible exact Tk.here | with_reducible apply Tk.there)); done) | ((repeat (first | exact Tk.here | apply Tk.there)); done))) | apply Sb.drop)) (ref_all (x := { x with since := x.since + 1 }) h1 (by show 0 ≤ x.n ∧ x.n ≤ 5; omega) hl (fun k _ => ⟨by have := hpe k; show 1 ≤ x.nx k; omega, (hpe k).2.2⟩)) ct40 rfl fun r6 hr6 => ?_
      exact sv (vaS rfl) <| WL.nil <| WX.thenN <| WC.ret <| WX.thenR <| WX.ret1 rfl (r6) (hr6) rfl (fun _ h => Sb.own (by repeat' (first | with_reducible exact Sb.all | exact Sb.nil | (apply Sb.cons; focus (first | ((repeat (first | with_reducible exact Tk.here | with_reducible apply Tk.there)); done) | ((repeat (first | exact Tk.here | apply Tk.there)); done))) | apply Sb.drop)) h)
  · -- else
    refine WC.skip <| WX.thenN <| WC.seq <| WC.region <| sv (vmP rfl) <| sv (vnil rfl) <| sv (vfldp fl54f6 rfl) <| sv (vldc pl3 rfl) <| sv (vadd rfl rfl (by omega)) <| sv (vnil rfl) <| sv (vfldp fl54f6 rfl) <| stp (v := .int _ _) pl3 sz3 rfl rfl rfl <| WL.nil <| WX.thenN <| WC.seq <| ?_
    refine WC.cutS [(49, .bool (decide (x.waited + 1 < 10 + 3 * x.id ∨ x.term = 1000000000)))] [(0, .pointer _)] ⟨rfl, trivial⟩ ?_ fun ρh => ?_
    · -- ref.go:152
      refine WC.draws rfl (by kernel_rfl) <| qv (vmP rfl) <| qv (vnil rfl) <| qv (vfldp fl54f6 rfl) <| qv (vldc pl3 rfl) <| qv (vmP rfl) <| qv (vnil rfl) <| qv (vfldpz fl54f0 rfl) <| qv (vldc pl3 rfl) <| qv (vmul rfl rfl (by omega)) <| qv (vadd rfl rfl (by omega)) <| qvs (vlt rfl rfl) (fun q1 => ?_) (fun q1 => ?_)
      ·
        exact qv (vmB rfl) <| qng rfl <| qng rfl <| qng rfl <| qng rfl <| qng rfl <| qng rfl <| qv (vpkt rfl) <| WQ.nil <| WX.mid () trivial ⟨bT (by first | omega | simp_all | grind), trivial⟩ ⟨rfl, trivial⟩ (fun _ h => Sb.own (by repeat' (first | with_reducible exact Sb.all | exact Sb.nil | (apply Sb.cons; focus (first | ((repeat (first | with_reducible exact Tk.here | with_reducible apply Tk.there)); done) | ((repeat (first | exact Tk.here | apply Tk.there)); done))) | apply Sb.drop)) h)
      ·
        exact qv (vmB rfl) <| qvg rfl (vmP rfl) <| qvg rfl (vnil rfl) <| qvg rfl (vfldp fl54f2 rfl) <| qvg rfl (vfldpz fl24f0 rfl) <| qvg rfl (vldc pl3 rfl) <| qvg rfl (vge rfl rfl) <| qv (vpkf rfl) <| WQ.nil <| WX.mid () trivial ⟨bI (by first | omega | simp_all | grind), trivial⟩ ⟨rfl, trivial⟩ (fun _ h => Sb.own (by repeat' (first | with_reducible exact Sb.all | exact Sb.nil | (apply Sb.cons; focus (first | ((repeat (first | with_reducible exact Tk.here | with_reducible apply Tk.there)); done) | ((repeat (first | exact Tk.here | apply Tk.there)); done))) | apply Sb.drop)) h)
    refine WC.ite rfl (fun h3 => ?_) (fun h3 => ?_)
    · -- then
      rw [show tickS x = ({ x with waited := x.waited + 1 }, []) from (if_neg h1).trans (if_pos h3)]
      exact WC.seq <| WC.region <| sv (vaS rfl) <| WL.nil <| WX.thenN <| WC.ret <| WX.thenR <| WX.ret1 rfl ((none, 0, [])) (⟨rfl, Nat.le_refl _⟩) rfl (fun w h => no_mailsR (rnode_mk (x := { x with waited := x.waited + 1 }) hc (hrel.same rfl rfl ⟨rfl, rfl⟩ ⟨rfl, rfl⟩) h))
    · -- else
      refine WC.skip <| WX.thenN <| WC.seq <| WC.region <| sv (vmP rfl) <| sv (vnil rfl) <| sv (vfldp fl54f2 rfl) <| sv (vfldpz fl24f0 rfl) <| sv (vldc pl3 rfl) <| sv (vadd (a := x.term) rfl rfl (by omega)) <| sv (vnil rfl) <| sv (vfldp fl54f2 rfl) <| sv (vfldpz fl24f0 rfl) <| stp (v := .int _ _) pl3 sz3 rfl rfl rfl <| WL.nil <| WX.thenN <| WC.seq <| WC.region <| sv (vmP rfl) <| sv (vmP rfl) <| sv (vnil rfl) <| sv (vfldpz fl54f0 rfl) <| sv (vldc pl3 rfl) <| sv (vnil rfl) <| sv (vfldp fl54f2 rfl) <| sv (vfldp fl24f1 rfl) <| stp (v := .int _ _) pl3 sz3 rfl rfl rfl <| WL.nil <| WX.thenN <| WC.seq <| WC.region <| sv (vmP rfl) <| sv (vnil rfl) <| sv (vfldp fl54f3 rfl) <| stp (v := .int _ _) pl3 sz3 rfl rfl rfl <| WL.nil <| WX.thenN <| WC.seq <| WC.region <| sv (vmP rfl) <| sv (vnil rfl) <| sv (vfldp fl54f4 rfl) <| stp (v := .int _ _) pl3 sz3 rfl rfl rfl <| WL.nil <| WX.thenN <| WC.seq <| WC.region <| sv (vmP rfl) <| sv (vnil rfl) <| sv (vfldp fl54f6 rfl) <| stp (v := .int _ _) pl3 sz3 rfl rfl rfl <| WL.nil <| WX.thenN <| WC.seq <| WC.region <| sv (vmP rfl) <| sv (vbdR (ps := []) (cs := [_, _, _, _, _, _]) Try.underlying51 sz4 zt51 rfl (by rfl)) <| sv (vnil rfl) <| sv (vfldp fl54f7 rfl) <| staq (vs' := rcells (runS x) base c (fun _ => false) N M) (cs := [.bool false, .bool false, .bool false, .bool false, .bool false, .bool false]) sz51 rfl rfl rfl rfl (by show 9 + 6 ≤ 28; omega) rfl <| WL.nil <| WX.thenN <| WC.seq <| WC.plan (.bar [0, 1, 2, 3, 4, 5, 6, 7] 8 (.done [])) rfl (by kernel_rfl) <| WPl.barC <| dv (fun g => (vmP rfl)) <| dv (fun g => (vmP rfl)) <| dv (fun g => (vnil rfl)) <| dv (fun g => (vfldpz fl54f0 rfl)) <| dv (fun g => (vldc pl3 rfl)) <| dv (fun g => (vnil rfl)) <| dv (fun g => (vfldp fl54f7 rfl)) <| dv (fun g => (vixap Try.underlying51 sz4 rfl rfl (by omega) (by omega))) <| WD.eff rfl <| stq (v := .bool true) pl4 sz4 rfl rfl rfl (by show _ < 28; omega) (rc_setV (x := runS x) (V := fun _ => false) (k := x.id.toNat) (by omega)) <| WL.nil <| WX.brT <| WPl.finC <| WD.nil <| WX.thenN <| WC.seq <| WC.seq <| WC.region <| sv (vmP rfl) <| sv (vnil rfl) <| sv (vfldp fl54f1 rfl) <| sv (vldc pl3 rfl) <| sv (veq rfl rfl) <| WL.nil <| WX.thenN <| ?_
      refine WC.ite rfl (fun h4 => ?_) (fun h4 => ?_)
      · -- then
        rw [show tickS x = leadS (runS x) from (if_neg h1).trans ((if_neg h3).trans (if_pos (by have h6 : x.n = 1 := h4; omega)))]
        refine WC.perm (A' := rnode p (runS x) :: A) ?_ (fun w h => rnode_mk (x := runS x) hc (RelR.run hid.1) h)
        refine WC.seq <| WC.region <| sv (vmP rfl) <| clx (by repeat' (first | with_reducible exact Sb.all | exact Sb.nil | (apply Sb.cons; focus (first | ((repeat (first | with_reducible exact Tk.here | with_reducible apply Tk.there)); done) | ((repeat (first | exact Tk.here | apply Tk.there)); done))) | apply Sb.drop)) (ref_leads (x := runS x) (hx.run (by omega)) rfl) ct41 rfl fun r29 hr29 => ?_
        exact sv (vaS rfl) <| WL.nil <| WX.thenN <| WC.ret <| WX.thenR <| WX.ret1 rfl (r29) (hr29) rfl (fun _ h => Sb.own (by repeat' (first | with_reducible exact Sb.all | exact Sb.nil | (apply Sb.cons; focus (first | ((repeat (first | with_reducible exact Tk.here | with_reducible apply Tk.there)); done) | ((repeat (first | exact Tk.here | apply Tk.there)); done))) | apply Sb.drop)) h)
      · -- else
        have hln : (runS x).n = x.n := rfl
        have hli : (runS x).id = x.id := rfl
        rw [show tickS x = (runS x, (others x).map (askM (runS x))) from (if_neg h1).trans ((if_neg h3).trans (if_neg (by omega)))]
        refine WC.skip <| WX.thenN <| WC.seq <| WC.region <| sv (vaS rfl) <| WL.nil <| WX.thenN <| WC.seq <| WC.seq <| WC.region <| sv (vaI rfl) <| WL.nil <| WX.thenN <| WC.block <| ?_
        refine WC.loop (ι := Nat × Option Addr × Nat × List Mh) (fun i => [(3, .slice i.2.1 i.2.2.2.length i.2.2.1), (4, .int .i64 ((i.1 : Int) + 1))]) [(0, .pointer _)] (fun i => row i.2.1 i.2.2.1 9 28 (mvs i.2.2.2) :: mrows i.2.2.2 :: cel p (rcells (runS x) base c (updN (fun _ => false) x.id.toNat true) N M) 54 :: row base c 2 39 (cvs x.log) :: A) (fun i => i.1 ≤ x.n.toNat ∧ i.2.2.2.map Mh.ml = (oth x.id i.1).map (askM (runS x)) ∧ i.2.2.2.length ≤ i.2.2.1) (fun i => x.n.toNat - i.1) ((0, none, 0, [])) (⟨by omega, rfl, Nat.le_refl _⟩) ⟨rfl, rfl, trivial⟩ ⟨rfl, trivial⟩ (fun w h => no_mails h) ?_
        rintro ⟨k, ob, oc, ms⟩ ⟨hi, hms, hmc⟩ ρh
        dsimp only at hi hms hmc ⊢
        have hml : ms.length ≤ 5 := by have := congrArg List.length hms; have h2 := oth_len (id := x.id) (n := k); rw [List.length_map, List.length_map] at this; omega
        have hmvl := mvs_length ms
        refine WC.seq <| WC.seq <| WC.region <| sv (vmI rfl) <| sv (vmP rfl) <| sv (vnil rfl) <| sv (vfldp fl54f1 rfl) <| sv (vldc pl3 rfl) <| sv (vle rfl rfl) <| WL.nil <| WX.thenN <| ?_
        refine WC.ite rfl (fun h5 => ?_) (fun h5 => ?_)
        · -- then
          refine WC.skip <| WX.thenN <| WC.seq <| WC.block <| WC.seq <| WC.region <| sv (vmI rfl) <| sv (vmP rfl) <| sv (vnil rfl) <| sv (vfldpz fl54f0 rfl) <| sv (vldc pl3 rfl) <| sv (vne rfl rfl) <| WL.nil <| WX.thenN <| ?_
          refine WC.ite rfl (fun h6 => ?_) (fun h6 => ?_)
          · -- then
            refine WC.plan (.pre [1, 2, 3, 4, 5, 6, 7, 8, 9, 10, 11, 12, 13, 14, 15, 16, 17] (.one [0] 18 (.bar [] 19 (.done [20])))) rfl (by kernel_rfl) <| WPl.preC <| dv (fun g => (vmP rfl)) <| dv (fun g => (vnil rfl)) <| dv (fun g => (vfldpz fl54f0 rfl)) <| dv (fun g => (vldc pl3 rfl)) <| dv (fun g => (vmI rfl)) <| dv (fun g => (vmP rfl)) <| dv (fun g => (vnil rfl)) <| dv (fun g => (vfldp fl54f2 rfl)) <| dv (fun g => (vfldpz fl24f0 rfl)) <| dv (fun g => (vldc pl3 rfl)) <| dv (fun g => (vmP rfl)) <| dcl (fun g => Fun.quiet (ref_last (x := runS x) (base := base) (c := c) (V := updN (fun _ => false) x.id.toNat true) (N := N) (M := M))) ct42 rfl <| dv (fun g => (vmP rfl)) <| dv (fun g => (vmP rfl)) <| dcl (fun g => Fun.quiet (ref_last (x := runS x) (base := base) (c := c) (V := updN (fun _ => false) x.id.toNat true) (N := N) (M := M))) ct42 rfl <| dcl (fun g => Fun.quiet (ref_term (x := runS x) (base := base) (c := c) (V := updN (fun _ => false) x.id.toNat true) (N := N) (M := M) hl)) ct43 rfl <| dv (fun g => (vbd (ps := [(0, (.int .i64 1)), (1, .int _ _), (2, .int _ _), (3, .int _ _), (4, .int _ _), (5, .int _ _)]) (cs := [_, _, _, _, _, _, _, _, _]) bt28 zt28 rfl (by rfl))) <| WD.nil <| WPl.oneE (fun g => by infer_instance) <| dv (fun g => (vmS rfl)) <| WD.eff rfl <| bslA (v := .agg _) (cs := mv ⟨1, x.id, (k : Int) + 1, x.term + 1, x.log.length, atT x.log x.log.length, 0, false, ⟨none, [], 0⟩⟩) Try.underlying43 zt28 rfl rfl rfl (by decide) (by decide) fun b38 => WL.nil <| WX.br <| WPl.barC <| WD.eff rfl <| pm (fun _ h => Sb.own (by repeat' (first | with_reducible exact Sb.all | exact Sb.nil | (apply Sb.cons; focus (first | ((repeat (first | with_reducible exact Tk.here | with_reducible apply Tk.there)); done) | ((repeat (first | exact Tk.here | apply Tk.there)); done))) | apply Sb.drop)) h) <| ap (vs := _) (news := mv ⟨1, x.id, (k : Int) + 1, x.term + 1, x.log.length, atT x.log x.log.length, 0, false, ⟨none, [], 0⟩⟩) rfl Try.underlying43 zt28 rfl rfl rfl (by omega) (rfl) (mv_one _) (reads) (by simp only [maxLen]; omega) (by omega) fun base39 c39 hc39 => ?_
            refine WL.nil <| WX.brT <| WPl.finC <| dv (fun g => (vaS rfl)) <| WD.nil <| WX.blockN <| WX.thenN <| WC.region <| sv (vmI rfl) <| sv (vadd rfl rfl (by omega)) <| sv (vaI rfl) <| WL.nil <| WX.again ((k + 1, base39, c39, ms ++ [⟨1, x.id, (k : Int) + 1, x.term + 1, x.log.length, atT x.log x.log.length, 0, false, ⟨none, [], 0⟩⟩])) (⟨by omega, by rw [oth_snoc (show (k : Int) + 1 ≠ x.id from h6), List.map_append, List.map_append, hms]; rfl, by rw [List.length_append]; exact hc39⟩) (by omega) ⟨iv' (by rw [List.length_append]; rfl), rfl, trivial⟩ ⟨rfl, trivial⟩ (fun w h => ?_)
            have h3 := mrows_snoc (y := ⟨1, x.id, (k : Int) + 1, x.term + 1, x.log.length, atT x.log x.log.length, 0, false, ⟨none, [], 0⟩⟩) (l := ms) ((Own.sp1 (by repeat' (first | exact Spl.nil | (apply Spl.cons; focus (first | ((repeat (first | with_reducible exact Tk.here | with_reducible apply Tk.there)); done) | ((repeat (first | exact Tk.here | apply Tk.there)); done))))) h).intro_row_nil)
            rw [mvs_snoc]
            exact Sb.own (by repeat' (first | with_reducible exact Sb.all | exact Sb.nil | (apply Sb.cons; focus (first | ((repeat (first | with_reducible exact Tk.here | with_reducible apply Tk.there)); done) | ((repeat (first | exact Tk.here | apply Tk.there)); done))) | apply Sb.drop)) h3
          · -- else
            exact WC.skip <| WX.blockN <| WX.thenN <| WC.region <| sv (vmI rfl) <| sv (vadd rfl rfl (by omega)) <| sv (vaI rfl) <| WL.nil <| WX.again ((k + 1, ob, oc, ms)) (⟨by omega, by rw [oth_id (by have h7 : ¬ ((k : Int) + 1 ≠ x.id) := h6; omega)]; exact hms, hmc⟩) (by omega) ⟨rfl, rfl, trivial⟩ ⟨rfl, trivial⟩ (fun _ h => Sb.own (by repeat' (first | with_reducible exact Sb.all | exact Sb.nil | (apply Sb.cons; focus (first | ((repeat (first | with_reducible exact Tk.here | with_reducible apply Tk.there)); done) | ((repeat (first | exact Tk.here | apply Tk.there)); done))) | apply Sb.drop)) h)
        · -- else
          refine WC.exit <| WX.thenE <| WX.thenE <| WX.blockH <| WX.thenN <| WC.seq <| WC.region <| sv (vmS rfl) <| sv (vaS rfl) <| WL.nil <| WX.thenN <| WC.ret <| WX.ret1 rfl ((ob, oc, ms)) (⟨by rw [hms, show k = x.n.toNat by omega]; rfl, hmc⟩) rfl (fun w h => ?_)
          have h3 := rnode_mk (x := runS x) hc (RelR.run hid.1) (Own.sp2 (by repeat' (first | exact Spl.nil | (apply Spl.cons; focus (first | ((repeat (first | with_reducible exact Tk.here | with_reducible apply Tk.there)); done) | ((repeat (first | exact Tk.here | apply Tk.there)); done))))) h)
          exact Sb.own (by repeat' (first | with_reducible exact Sb.all | exact Sb.nil | (apply Sb.cons; focus (first | ((repeat (first | with_reducible exact Tk.here | with_reducible apply Tk.there)); done) | ((repeat (first | exact Tk.here | apply Tk.there)); done))) | apply Sb.drop)) h3
theorem ref_propose_err {w0 : World} {A : List HProp} {p : Nat} {x : Rn} {d : ByteArray} (h : proposeE x d ≠ 0) :
    Fun Try.prog w0 22 [.pointer (some ⟨p, 0, none⟩), .string d] (rnode p x :: A) (Ret w0 (fun _ : Unit => True) (fun _ => .tuple #[.int .i64 0, .slice none 0 0, .int .i64 (proposeE x d)]) (fun _ => rnode p x :: A)) := by
  refine Fun.ex (fun w h => rnode_open h) ?_
  rintro ⟨base, c, V, N, M⟩ ⟨hc, hrel⟩
  dsimp only at hc hrel ⊢
  refine Fun.enter Try.func22 rfl Try.ntmps22 rfl ?_
  refine WC.seq <| WC.region <| sv (vaI rfl) <| sv (vaS rfl) <| sv (vaI rfl) <| WL.nil <| WX.thenN <| WC.seq <| ?_
  refine WC.cutS [(14, .bool (decide ((d.size : Int) < 1 ∨ (4096 : Int) < d.size)))] [(0, .pointer _), (1, .string _)] ⟨rfl, rfl, trivial⟩ ?_ fun ρh => ?_
  · -- ref.go:260
    refine WC.region <| sv (vmT rfl) <| sv (vlens Try.underlying9 rfl) <| svs (vlt rfl rfl) (fun q1 => ?_) (fun q1 => ?_)
    ·
      exact sv (vmB rfl) <| sng rfl <| sng rfl <| sng rfl <| sv (vpkt rfl) <| WL.nil <| WX.mid () trivial ⟨bT (by first | omega | simp_all | grind), trivial⟩ ⟨rfl, rfl, trivial⟩ (fun _ h => Sb.own (by repeat' (first | with_reducible exact Sb.all | exact Sb.nil | (apply Sb.cons; focus (first | ((repeat (first | with_reducible exact Tk.here | with_reducible apply Tk.there)); done) | ((repeat (first | exact Tk.here | apply Tk.there)); done))) | apply Sb.drop)) h)
    ·
      exact sv (vmB rfl) <| svg rfl (vmT rfl) <| svg rfl (vlens Try.underlying9 rfl) <| svg rfl (vgt rfl rfl) <| sv (vpkf rfl) <| WL.nil <| WX.mid () trivial ⟨bI (by first | omega | simp_all | grind), trivial⟩ ⟨rfl, rfl, trivial⟩ (fun _ h => Sb.own (by repeat' (first | with_reducible exact Sb.all | exact Sb.nil | (apply Sb.cons; focus (first | ((repeat (first | with_reducible exact Tk.here | with_reducible apply Tk.there)); done) | ((repeat (first | exact Tk.here | apply Tk.there)); done))) | apply Sb.drop)) h)
  refine WC.ite rfl (fun h1 => ?_) (fun h1 => ?_)
  · -- then
    rw [show proposeE x d = 1 from if_pos (by omega)]
    exact WC.seq <| WC.region <| sv (vaI rfl) <| sv (vaS rfl) <| sv (vaI rfl) <| WL.nil <| WX.thenN <| WC.ret <| WX.thenR <| WX.ret3 rfl (()) (trivial) rfl (fun w h => rnode_mk hc hrel h)
  · -- else
    have n1 : ¬ (d.size = 0 ∨ 4096 < d.size) := by omega
    refine WC.skip <| WX.thenN <| WC.seq <| WC.seq <| WC.region <| sv (vmP rfl) <| sv (vnil rfl) <| sv (vfldp fl54f3 rfl) <| sv (vldc pl3 rfl) <| sv (vne rfl rfl) <| WL.nil <| WX.thenN <| ?_
    refine WC.ite rfl (fun h2 => ?_) (fun h2 => ?_)
    · -- then
      rw [show proposeE x d = 190 from (if_neg n1).trans (if_pos h2)]
      exact WC.seq <| WC.region <| sv (vaI rfl) <| sv (vaS rfl) <| sv (vaI rfl) <| WL.nil <| WX.thenN <| WC.ret <| WX.thenR <| WX.ret3 rfl (()) (trivial) rfl (fun w h => rnode_mk hc hrel h)
    · -- else
      refine WC.skip <| WX.thenN <| WC.seq <| WC.seq <| WC.region <| sv (vmP rfl) <| clx (by repeat' (first | with_reducible exact Sb.all | exact Sb.nil | (apply Sb.cons; focus (first | ((repeat (first | with_reducible exact Tk.here | with_reducible apply Tk.there)); done) | ((repeat (first | exact Tk.here | apply Tk.there)); done))) | apply Sb.drop)) (ref_last (x := x) (base := base) (c := c) (V := V) (N := N) (M := M)) ct42 rfl fun r2 hr2 => ?_
      refine sv (vge rfl rfl) <| WL.nil <| WX.thenN <| ?_
      refine WC.ite rfl (fun h3 => ?_) (fun h3 => ?_)
      · -- then
        rw [show proposeE x d = 8 from (if_neg n1).trans ((if_neg h2).trans (if_pos (by omega)))]
        exact WC.seq <| WC.region <| sv (vaI rfl) <| sv (vaS rfl) <| sv (vaI rfl) <| WL.nil <| WX.thenN <| WC.ret <| WX.thenR <| WX.ret3 rfl (()) (trivial) rfl (fun w h => rnode_mk hc hrel h)
      · -- else
        exact absurd ((if_neg n1).trans ((if_neg h2).trans (if_neg (by omega)))) h
theorem ref_propose {w0 : World} {A : List HProp} {p : Nat} {x : Rn} {d : ByteArray} (hx : RInv x) (h : proposeE x d = 0) :
    Fun Try.prog w0 22 [.pointer (some ⟨p, 0, none⟩), .string d] (rnode p x :: A)
      (Ret w0 (fun i : Option Addr × Nat × List Mh => i.2.2.map Mh.ml = (proposeS x d).2 ∧ i.2.2.length ≤ i.2.1) (fun i => .tuple #[.int .i64 ((x.log.length : Int) + 1), .slice i.1 i.2.2.length i.2.1, .int .i64 0]) (fun i => row i.1 i.2.1 9 28 (mvs i.2.2) :: mrows i.2.2 :: rnode p (proposeS x d).1 :: A)) := by
  have hp := propose_ok h
  have hr := hp.2.2.1
  refine Fun.ex (fun w h => rnode_open h) ?_
  rintro ⟨base, c, V, N, M⟩ ⟨hc, hrel⟩
  dsimp only at hc hrel ⊢
  have hn := hx.n
  have hl := hx.log
  have hya := hx.add (d := d) hr (by omega) (by omega)
  have hpa := hya.count.peers hr
  have e1 : (countS (addS d x)).log.length = x.log.length + 1 := by simp [addS, countS]
  refine Fun.enter Try.func22 rfl Try.ntmps22 rfl ?_
  refine WC.seq <| WC.region <| sv (vaI rfl) <| sv (vaS rfl) <| sv (vaI rfl) <| WL.nil <| WX.thenN <| WC.seq <| ?_
  refine WC.cutS [(14, .bool (decide ((d.size : Int) < 1 ∨ (4096 : Int) < d.size)))] [(0, .pointer _), (1, .string _)] ⟨rfl, rfl, trivial⟩ ?_ fun ρh => ?_
  · -- ref.go:260
    refine WC.region <| sv (vmT rfl) <| sv (vlens Try.underlying9 rfl) <| svs (vlt rfl rfl) (fun q1 => ?_) (fun q1 => ?_)
    ·
      exact sv (vmB rfl) <| sng rfl <| sng rfl <| sng rfl <| sv (vpkt rfl) <| WL.nil <| WX.mid () trivial ⟨bT (by first | omega | simp_all | grind), trivial⟩ ⟨rfl, rfl, trivial⟩ (fun _ h => Sb.own (by repeat' (first | with_reducible exact Sb.all | exact Sb.nil | (apply Sb.cons; focus (first | ((repeat (first | with_reducible exact Tk.here | with_reducible apply Tk.there)); done) | ((repeat (first | exact Tk.here | apply Tk.there)); done))) | apply Sb.drop)) h)
    ·
      exact sv (vmB rfl) <| svg rfl (vmT rfl) <| svg rfl (vlens Try.underlying9 rfl) <| svg rfl (vgt rfl rfl) <| sv (vpkf rfl) <| WL.nil <| WX.mid () trivial ⟨bI (by first | omega | simp_all | grind), trivial⟩ ⟨rfl, rfl, trivial⟩ (fun _ h => Sb.own (by repeat' (first | with_reducible exact Sb.all | exact Sb.nil | (apply Sb.cons; focus (first | ((repeat (first | with_reducible exact Tk.here | with_reducible apply Tk.there)); done) | ((repeat (first | exact Tk.here | apply Tk.there)); done))) | apply Sb.drop)) h)
  refine WC.ite rfl (fun h1 => ?_) (fun h1 => ?_)
  · -- then
    exact absurd h1 (by omega)
  · -- else
    refine WC.skip <| WX.thenN <| WC.seq <| WC.seq <| WC.region <| sv (vmP rfl) <| sv (vnil rfl) <| sv (vfldp fl54f3 rfl) <| sv (vldc pl3 rfl) <| sv (vne rfl rfl) <| WL.nil <| WX.thenN <| ?_
    refine WC.ite rfl (fun h2 => ?_) (fun h2 => ?_)
    · -- then
      exact absurd hr h2
    · -- else
      refine WC.skip <| WX.thenN <| WC.seq <| WC.seq <| WC.region <| sv (vmP rfl) <| clx (by repeat' (first | with_reducible exact Sb.all | exact Sb.nil | (apply Sb.cons; focus (first | ((repeat (first | with_reducible exact Tk.here | with_reducible apply Tk.there)); done) | ((repeat (first | exact Tk.here | apply Tk.there)); done))) | apply Sb.drop)) (ref_last (x := x) (base := base) (c := c) (V := V) (N := N) (M := M)) ct42 rfl fun r2 hr2 => ?_
      refine sv (vge rfl rfl) <| WL.nil <| WX.thenN <| ?_
      refine WC.ite rfl (fun h3 => ?_) (fun h3 => ?_)
      · -- then
        exact absurd h3 (by omega)
      · -- else
        refine WC.perm (A' := rnode p x :: A) ?_ (fun w h => rnode_mk hc hrel h)
        refine WC.skip <| WX.thenN <| WC.seq <| WC.region <| sv (vmP rfl) <| sv (vmT rfl) <| clx (by repeat' (first | with_reducible exact Sb.all | exact Sb.nil | (apply Sb.cons; focus (first | ((repeat (first | with_reducible exact Tk.here | with_reducible apply Tk.there)); done) | ((repeat (first | exact Tk.here | apply Tk.there)); done))) | apply Sb.drop)) (ref_add (x := x) (d := d) hl) ct53 rfl fun r3 hr3 => ?_
        refine WL.nil <| WX.thenN <| WC.seq <| WC.region <| sv (vmP rfl) <| clx (by repeat' (first | with_reducible exact Sb.all | exact Sb.nil | (apply Sb.cons; focus (first | ((repeat (first | with_reducible exact Tk.here | with_reducible apply Tk.there)); done) | ((repeat (first | exact Tk.here | apply Tk.there)); done))) | apply Sb.drop)) (ref_count (x := addS d x) hr (by show 0 ≤ x.n ∧ x.n ≤ 5; omega) hya.log hya.commit.1 hya.rise) ct54 rfl fun r4 hr4 => ?_
        refine WL.ex (fun w h => rnode_open h) ?_
        rintro ⟨base, c, V, N, M⟩ ⟨hc, hrel⟩
        dsimp only at hc hrel ⊢
        refine WL.nil <| WX.thenN <| WC.seq <| WC.region <| sv (vmP rfl) <| clx (by repeat' (first | with_reducible exact Sb.all | exact Sb.nil | (apply Sb.cons; focus (first | ((repeat (first | with_reducible exact Tk.here | with_reducible apply Tk.there)); done) | ((repeat (first | exact Tk.here | apply Tk.there)); done))) | apply Sb.drop)) (ref_last (x := countS (addS d x)) (base := base) (c := c) (V := V) (N := N) (M := M)) ct42 rfl fun r5 hr5 => ?_
        refine sv (vmP rfl) <| pm (fun _ h => rnode_mk hc hrel h) <| clx (by repeat' (first | with_reducible exact Sb.all | exact Sb.nil | (apply Sb.cons; focus (first | ((repeat (first | with_reducible exact Tk.here | with_reducible apply Tk.there)); done) | ((repeat (first | exact Tk.here | apply Tk.there)); done))) | apply Sb.drop)) (ref_all (x := countS (addS d x)) hr (by show 0 ≤ x.n ∧ x.n ≤ 5; omega) hya.count.log (fun k _ => ⟨by have := hpa k; omega, (hpa k).2.2⟩)) ct40 rfl fun r6 hr6 => ?_
        exact sv (vaI rfl) <| sv (vaS rfl) <| sv (vaI rfl) <| WL.nil <| WX.thenN <| WC.ret <| WX.ret3 rfl (r6) (hr6) (by show Value.tuple #[.int .i64 ((countS (addS d x)).log.length : Int), _, _] = _; rw [e1]; rfl) (fun _ h => Sb.own (by repeat' (first | with_reducible exact Sb.all | exact Sb.nil | (apply Sb.cons; focus (first | ((repeat (first | with_reducible exact Tk.here | with_reducible apply Tk.there)); done) | ((repeat (first | exact Tk.here | apply Tk.there)); done))) | apply Sb.drop)) h)
end Go.Proofs.Ytekoilhjlofncaa
