/-
  Layer 19's reference: mails fed, what is counted.
-/
import Derived.Test.YtekoilhjlofncaaRaftRefA
set_option linter.unusedVariables false
set_option linter.unusedSimpArgs false
set_option maxRecDepth 4000
namespace Go.Proofs.Ytekoilhjlofncaa
open Go.Sl Go.RowKit Go.Raft

section
variable {x : Rn} {base : Option Addr} {c k : Nat} {V : Nat → Bool} {N M : Nat → Int}
theorem six {k : Nat} (h : k < 6) : k = 0 ∨ k = 1 ∨ k = 2 ∨ k = 3 ∨ k = 4 ∨ k = 5 := by omega
theorem rc_V (h : k < 6) : (rcells x base c V N M)[9 + k]? = some (.bool (V k)) := by rcases six h with rfl | rfl | rfl | rfl | rfl | rfl <;> rfl
theorem rc_N (h : k < 6) : (rcells x base c V N M)[15 + k]? = some (.int .i64 (N k)) := by rcases six h with rfl | rfl | rfl | rfl | rfl | rfl <;> rfl
theorem rc_M (h : k < 6) : (rcells x base c V N M)[21 + k]? = some (.int .i64 (M k)) := by rcases six h with rfl | rfl | rfl | rfl | rfl | rfl <;> rfl
def updN {α : Type} (f : Nat → α) (k : Nat) (v : α) : Nat → α := fun j => if j = k then v else f j
theorem rc_setV (h : k < 6) {b : Bool} : (rcells x base c V N M).set (9 + k) (.bool b) = rcells x base c (updN V k b) N M := by rcases six h with rfl | rfl | rfl | rfl | rfl | rfl <;> rfl
theorem rc_setN (h : k < 6) {v : Int} : (rcells x base c V N M).set (15 + k) (.int .i64 v) = rcells x base c V (updN N k v) M := by rcases six h with rfl | rfl | rfl | rfl | rfl | rfl <;> rfl
theorem rc_setM (h : k < 6) {v : Int} : (rcells x base c V N M).set (21 + k) (.int .i64 v) = rcells x base c V N (updN M k v) := by rcases six h with rfl | rfl | rfl | rfl | rfl | rfl <;> rfl
end
theorem ref_to {w0 : World} {R : List HProp} {p c : Nat} {base : Option Addr} {x : Rn} {V : Nat → Bool} {N M : Nat → Int} {k : Int} (h5 : 0 ≤ k ∧ k < 6) (hl : x.log.length ≤ 10000) (hc : x.log.length ≤ c) (hN : N k.toNat = x.nx k) (hk : 1 ≤ x.nx k ∧ x.nx k ≤ (x.log.length : Int) + 1) :
    Fun Try.prog w0 62 [.pointer (some ⟨p, 0, none⟩), .int .i64 k] (cel p (rcells x base c V N M) 54 :: row base c 2 39 (cvs x.log) :: R)
      (Ret w0 (fun i : Option Addr × Nat => (feedM x k).cells.length ≤ i.2) (fun i => .agg (mv (feedH x k i)).toArray) (fun i => row i.1 i.2 2 39 (cvs (feedM x k).cells) :: cel p (rcells x base c V N M) 54 :: row base c 2 39 (cvs x.log) :: R)) := by
  obtain ⟨lo, hlo⟩ : ∃ lo : Nat, x.nx k - 1 = (lo : Int) := ⟨(x.nx k - 1).toNat, by omega⟩
  have hcl : (feedM x k).cells = (x.log.drop lo).take 8 := by simp [feedM, hlo]
  have hcn : ((x.log.drop lo).take 8).length = (min (x.log.length : Int) ((lo : Int) + 8)).toNat - lo := by rw [List.length_take, List.length_drop]; omega
  have hrd : ∀ {B : List HProp} [Reads w0 B base (cvs x.log)], RdC w0 B (slB base ((lo : Int)).toNat c 2) (cvs ((x.log.drop lo).take 8)) := fun {B} _ => by
    have := (reads (w0 := w0) (A := B) (base := base) (vs := cvs x.log)).slice lo c 2 (((x.log.drop lo).take 8).length * 2) (fun h => by rw [hcn]; omega)
    rw [cvs_drop] at this
    have e : (cvs (x.log.drop lo)).take (((x.log.drop lo).take 8).length * 2) = cvs ((x.log.drop lo).take 8) := by rw [cvs_take, List.length_take, List.take_eq_take_iff.2]; omega
    rw [e] at this
    simpa using this
  refine Fun.enter Try.func62 rfl Try.ntmps62 rfl ?_
  refine WC.seq <| WC.region <| alz (cs := [.int .i64 0, .int .i64 0, .int .i64 0, .int .i64 0, .int .i64 0, .int .i64 0, .int .i64 0, .bool false, .slice none 0 0]) zt28 (by rfl) fun b1 => WL.nil <| WX.thenN <| WC.seq <| WC.region <| sv (vmP rfl) <| sv (vmI rfl) <| sv (vnil rfl) <| sv (vfldp fl54f8 rfl) <| sv (vixap Try.underlying52 sz3 rfl rfl (by omega) (by omega)) <| sv (vw (v' := .int .i64 (x.nx k)) (vldx pl3 rfl (rc_N (by omega))) (iv hN)) <| sv (vw (vsub rfl rfl (by omega)) (iv hlo)) <| sv (vaI rfl) <| WL.nil <| WX.thenN <| WC.seq <| WC.region <| sv (vmP rfl) <| clx (by repeat' (first | with_reducible exact Sb.all | exact Sb.nil | (apply Sb.cons; focus (first | ((repeat (first | with_reducible exact Tk.here | with_reducible apply Tk.there)); done) | ((repeat (first | exact Tk.here | apply Tk.there)); done))) | apply Sb.drop)) (ref_last (x := x) (base := base) (c := c) (V := V) (N := N) (M := M)) ct42 rfl fun r5 hr5 => ?_
  refine sv (vmI rfl) <| sv (vadd rfl rfl (by omega)) <| sv (vmin rfl rfl) <| sv (vaI rfl) <| WL.nil <| WX.thenN <| WC.seq <| WC.plan (.pre [11, 12, 13, 18, 19, 20, 21, 22, 23, 24, 25] (.one [0, 1, 2, 3, 4, 5, 6, 7, 8, 9, 10, 14, 15, 16, 17] 26 (.bar [27] 28 (.done [])))) rfl (by kernel_rfl) <| WPl.preC <| dv (fun g => (vmP rfl)) <| dv (fun g => (vmI rfl)) <| dcl (fun g => Fun.quiet (ref_term (x := x) (base := base) (c := c) (V := V) (N := N) (M := M) hl)) ct43 rfl <| dv (fun g => (vmP rfl)) <| dv (fun g => (vnil rfl)) <| dv (fun g => (vfldp fl54f2 rfl)) <| dv (fun g => (vfldp fl24f2 rfl)) <| dv (fun g => (vldc pl22 rfl)) <| dv (fun g => (vmI rfl)) <| dv (fun g => (vmI rfl)) <| dv (fun g => (vw (v' := .slice (slB base ((lo : Int)).toNat c 2) ((x.log.drop lo).take 8).length (c - ((lo : Int)).toNat)) (vslLH Try.underlying22 sz39 rfl rfl rfl (by omega) (by omega) (by omega)) (by rw [hcn, Int.toNat_natCast]))) <| WD.nil <| WPl.oneE (fun g => by infer_instance) <| dv (fun g => (vmP rfl)) <| dv (fun g => (vnil rfl)) <| dv (fun g => (vfldpz fl54f0 rfl)) <| dv (fun g => (vldc pl3 rfl)) <| dv (fun g => (vmI rfl)) <| dv (fun g => (vmP rfl)) <| dv (fun g => (vnil rfl)) <| dv (fun g => (vfldp fl54f2 rfl)) <| dv (fun g => (vfldpz fl24f0 rfl)) <| dv (fun g => (vldc pl3 rfl)) <| dv (fun g => (vmI rfl)) <| dv (fun g => (vmP rfl)) <| dv (fun g => (vnil rfl)) <| dv (fun g => (vfldp fl54f5 rfl)) <| dv (fun g => (vldc pl3 rfl)) <| WD.eff rfl <| clx (by repeat' (first | with_reducible exact Sb.all | exact Sb.nil | (apply Sb.cons; focus (first | ((repeat (first | with_reducible exact Tk.here | with_reducible apply Tk.there)); done) | ((repeat (first | exact Tk.here | apply Tk.there)); done))) | apply Sb.drop)) (ref_copy (hR := ⟨hrd⟩) (by rw [List.length_take]; omega)) ct9 rfl fun r14 hr14 => ?_
  exact WL.nil <| WX.br <| WPl.barC <| dv (fun g => (vbd (ps := [(0, (.int .i64 3)), (1, .int _ _), (2, .int _ _), (3, .int _ _), (4, .int _ _), (5, .int _ _), (6, .int _ _), (8, .slice _ _ _)]) (cs := [_, _, _, _, _, _, _, _, _]) bt28 zt28 rfl (by rfl))) <| WD.eff rfl <| stAp sz28 rfl rfl rfl (by intro v hv; simp only [List.mem_cons, List.not_mem_nil, or_false] at hv; rcases hv with rfl | rfl | rfl | rfl | rfl | rfl | rfl | rfl | rfl <;> rfl) rfl <| WL.nil <| WX.brT <| WPl.finC <| WD.nil <| WX.thenN <| WC.ret <| WX.ret1c rfl ag28 sz28 (r14) (by rw [hcl]; exact hr14) rfl rfl (by decide) (by unfold feedH; rw [hcl, hlo]) (fun w h => by rw [hcl]; exact Sb.own (by repeat' (first | with_reducible exact Sb.all | exact Sb.nil | (apply Sb.cons; focus (first | ((repeat (first | with_reducible exact Tk.here | with_reducible apply Tk.there)); done) | ((repeat (first | exact Tk.here | apply Tk.there)); done))) | apply Sb.drop)) h)
abbrev MRr (w0 : World) (p : Nat) (A : List HProp) (y : Rn × List Ml) : Ending → World → Prop :=
  Ret w0 (fun i : Option Addr × Nat × List Mh => i.2.2.map Mh.ml = y.2 ∧ i.2.2.length ≤ i.2.1) (fun i => .slice i.1 i.2.2.length i.2.1) (fun i => row i.1 i.2.1 9 28 (mvs i.2.2) :: mrows i.2.2 :: rnode p y.1 :: A)
theorem ref_all {w0 : World} {R : List HProp} {p : Nat} {x : Rn} (hr : x.role = 2) (hn : 0 ≤ x.n ∧ x.n ≤ 5) (hl : x.log.length ≤ 10000) (hk : ∀ k ∈ others x, 1 ≤ x.nx k ∧ x.nx k ≤ (x.log.length : Int) + 1) :
    Fun Try.prog w0 40 [.pointer (some ⟨p, 0, none⟩)] (rnode p x :: R) (MRr w0 p R (feedAllS x)) := by
  refine Fun.ex (fun w h => rnode_open h) ?_
  rintro ⟨base, c, V, N, M⟩ ⟨hc, hrel⟩
  dsimp only at hc hrel ⊢
  refine Fun.enter Try.func40 rfl Try.ntmps40 rfl ?_
  refine WC.seq <| WC.region <| sv (vaS rfl) <| WL.nil <| WX.thenN <| WC.seq <| WC.region <| sv (vaS rfl) <| WL.nil <| WX.thenN <| WC.seq <| WC.seq <| WC.region <| sv (vaI rfl) <| WL.nil <| WX.thenN <| WC.block <| ?_
  refine WC.loop (ι := Nat × Option Addr × Nat × List Mh) (fun i => [(3, .slice i.2.1 i.2.2.2.length i.2.2.1), (4, .int .i64 ((i.1 : Int) + 1))]) [(0, .pointer _)] (fun i => row i.2.1 i.2.2.1 9 28 (mvs i.2.2.2) :: mrows i.2.2.2 :: cel p (rcells x base c V N M) 54 :: row base c 2 39 (cvs x.log) :: R) (fun i => i.1 ≤ x.n.toNat ∧ i.2.2.2.map Mh.ml = (oth x.id i.1).map (feedM x) ∧ i.2.2.2.length ≤ i.2.2.1) (fun i => x.n.toNat - i.1) ((0, none, 0, [])) (⟨by omega, rfl, Nat.le_refl _⟩) ⟨rfl, rfl, trivial⟩ ⟨rfl, trivial⟩ (fun w h => no_mails h) ?_
  rintro ⟨k, ob, oc, ms⟩ ⟨hi, hms, hmc⟩ ρh
  dsimp only at hi hms hmc ⊢
  have hml : ms.length ≤ 5 := by have := congrArg List.length hms; have h2 := oth_len (id := x.id) (n := k); rw [List.length_map, List.length_map] at this; omega
  have hmvl := mvs_length ms
  refine WC.seq <| WC.seq <| WC.region <| sv (vmI rfl) <| sv (vmP rfl) <| sv (vnil rfl) <| sv (vfldp fl54f1 rfl) <| sv (vldc pl3 rfl) <| sv (vle rfl rfl) <| WL.nil <| WX.thenN <| ?_
  refine WC.ite rfl (fun h1 => ?_) (fun h1 => ?_)
  · -- then
    refine WC.skip <| WX.thenN <| WC.seq <| WC.block <| WC.seq <| WC.region <| sv (vmI rfl) <| sv (vmP rfl) <| sv (vnil rfl) <| sv (vfldpz fl54f0 rfl) <| sv (vldc pl3 rfl) <| sv (vne rfl rfl) <| WL.nil <| WX.thenN <| ?_
    refine WC.ite rfl (fun h2 => ?_) (fun h2 => ?_)
    · -- then
      have hko : ((k : Int) + 1) ∈ others x := oth_mem.2 ⟨by omega, by omega, h2⟩
      have hNk : N ((k : Int) + 1).toNat = x.nx ((k : Int) + 1) := (hrel.peers hr (k + 1) hko).1
      refine WC.region <| sv (vmS rfl) <| sv (vmP rfl) <| sv (vmI rfl) <| clx (by repeat' (first | with_reducible exact Sb.all | exact Sb.nil | (apply Sb.cons; focus (first | ((repeat (first | with_reducible exact Tk.here | with_reducible apply Tk.there)); done) | ((repeat (first | exact Tk.here | apply Tk.there)); done))) | apply Sb.drop)) (ref_to (x := x) (base := base) (c := c) (V := V) (N := N) (M := M) (k := (k : Int) + 1) (by omega) hl hc hNk (hk _ hko)) ct62 rfl fun r3 hr3 => ?_
      refine pm (fun _ h => Sb.own (by repeat' (first | with_reducible exact Sb.all | exact Sb.nil | (apply Sb.cons; focus (first | ((repeat (first | with_reducible exact Tk.here | with_reducible apply Tk.there)); done) | ((repeat (first | exact Tk.here | apply Tk.there)); done))) | apply Sb.drop)) h) <| apA (v := .agg _) (cs := mv (feedH x ((k : Int) + 1) r3)) Try.underlying43 zt28 rfl (fun _ => rfl) (fun _ => rfl) rfl rfl rfl (by decide) (by decide) (by intro v hv; simp only [List.mem_cons, List.not_mem_nil, or_false] at hv; rcases hv with rfl | rfl | rfl | rfl | rfl | rfl | rfl | rfl | rfl <;> rfl) (by omega) (by simp only [maxLen]; omega) (by omega) fun _ base5 c5 hc5 => ?_
      refine sv (vaS rfl) <| WL.nil <| WX.blockN <| WX.thenN <| WC.region <| sv (vmI rfl) <| sv (vadd rfl rfl (by omega)) <| sv (vaI rfl) <| WL.nil <| WX.again ((k + 1, base5, c5, ms ++ [feedH x ((k : Int) + 1) r3])) (⟨by omega, by rw [oth_snoc h2, List.map_append, List.map_append, hms]; rfl, by rw [List.length_append]; exact hc5⟩) (by omega) ⟨iv' (by rw [List.length_append]; rfl), rfl, trivial⟩ ⟨rfl, trivial⟩ (fun w h => ?_)
      have h3 := mrows_snoc (y := feedH x ((k : Int) + 1) r3) (l := ms) (Sb.own (B := row r3.1 r3.2 2 39 (cvs (feedM x ((k : Int) + 1)).cells) :: mrows ms :: row base5 c5 9 28 (mvs ms ++ mv (feedH x ((k : Int) + 1) r3)) :: cel p (rcells x base c V N M) 54 :: row base c 2 39 (cvs x.log) :: R) (by repeat' (first | with_reducible exact Sb.all | exact Sb.nil | (apply Sb.cons; focus (first | ((repeat (first | with_reducible exact Tk.here | with_reducible apply Tk.there)); done) | ((repeat (first | exact Tk.here | apply Tk.there)); done))) | apply Sb.drop)) h)
      rw [← mvs_snoc] at h3
      exact Sb.own (by repeat' (first | with_reducible exact Sb.all | exact Sb.nil | (apply Sb.cons; focus (first | ((repeat (first | with_reducible exact Tk.here | with_reducible apply Tk.there)); done) | ((repeat (first | exact Tk.here | apply Tk.there)); done))) | apply Sb.drop)) h3
    · -- else
      exact WC.skip <| WX.blockN <| WX.thenN <| WC.region <| sv (vmI rfl) <| sv (vadd rfl rfl (by omega)) <| sv (vaI rfl) <| WL.nil <| WX.again ((k + 1, ob, oc, ms)) (⟨by omega, by rw [oth_id (by omega)]; exact hms, hmc⟩) (by omega) ⟨rfl, rfl, trivial⟩ ⟨rfl, trivial⟩ (fun _ h => Sb.own (by repeat' (first | with_reducible exact Sb.all | exact Sb.nil | (apply Sb.cons; focus (first | ((repeat (first | with_reducible exact Tk.here | with_reducible apply Tk.there)); done) | ((repeat (first | exact Tk.here | apply Tk.there)); done))) | apply Sb.drop)) h)
  · -- else
    exact WC.exit <| WX.thenE <| WX.thenE <| WX.blockH <| WX.thenN <| WC.seq <| WC.region <| sv (vmP rfl) <| sv (vnil rfl) <| sv (vfldp fl54f10 rfl) <| stp (v := .int _ _) pl3 sz3 rfl rfl rfl <| WL.nil <| WX.thenN <| WC.seq <| WC.region <| sv (vmS rfl) <| sv (vaS rfl) <| WL.nil <| WX.thenN <| WC.ret <| WX.ret1 rfl ((ob, oc, ms)) (⟨by rw [hms, show k = x.n.toNat by omega]; rfl, hmc⟩) rfl (fun w h => Sb.own (by repeat' (first | with_reducible exact Sb.all | exact Sb.nil | (apply Sb.cons; focus (first | ((repeat (first | with_reducible exact Tk.here | with_reducible apply Tk.there)); done) | ((repeat (first | exact Tk.here | apply Tk.there)); done))) | apply Sb.drop)) (rnode_mk (x := (feedAllS x).1) hc (hrel.same rfl rfl ⟨rfl, rfl⟩ ⟨rfl, rfl⟩) (Sb.own (B := cel p (rcells (feedAllS x).1 base c V N M) 54 :: row base c 2 39 (cvs x.log) :: row ob oc 9 28 (mvs ms) :: mrows ms :: R) (by repeat' (first | with_reducible exact Sb.all | exact Sb.nil | (apply Sb.cons; focus (first | ((repeat (first | with_reducible exact Tk.here | with_reducible apply Tk.there)); done) | ((repeat (first | exact Tk.here | apply Tk.there)); done))) | apply Sb.drop)) h)))
def countQ (x : Rn) : Nat → Int
  | 0 => x.commit
  | p + 1 => if x.commit < (p : Int) + 1 then (if x.n < 2 * haveC x ((p : Int) + 1) ∧ atT x.log ((p : Int) + 1) = x.term then (p : Int) + 1 else countQ x p) else x.commit
theorem atT_mono {l : List Cl} {least most : Int} (h : rises l least most = true) {p q : Nat} (hpq : p ≤ q) (hq : q < l.length) : atT l ((p : Int) + 1) ≤ atT l ((q : Int) + 1) := by
  induction l generalizing least p q with
  | nil => simp at hq
  | cons d l ih =>
    simp only [rises, Bool.and_eq_true, decide_eq_true_eq] at h
    cases q with
    | zero => have : p = 0 := by omega
              subst this; exact Int.le_refl _
    | succ q =>
      have hq' : q < l.length := by simpa using hq
      have e1 : atT (d :: l) (((q + 1 : Nat) : Int) + 1) = l[q].term := atT_pos (by simp)
      rw [e1]
      cases p with
      | zero =>
        have e2 : atT (d :: l) (((0 : Nat) : Int) + 1) = d.term := atT_pos rfl
        rw [e2]; exact (rises_mem h.2 _ (List.getElem_mem hq')).2.1
      | succ p =>
        have hp' : p < l.length := by omega
        have h3 := ih h.2 (p := p) (q := q) (by omega) hq'
        have e2 : atT (d :: l) (((p + 1 : Nat) : Int) + 1) = l[p].term := atT_pos (by simp)
        have e3 : atT l ((p : Int) + 1) = l[p].term := atT_pos (by simp)
        have e4 : atT l ((q : Int) + 1) = l[q].term := atT_pos (by simp)
        rw [e2]; rwa [e3, e4] at h3
theorem countQ_none {x : Rn} : ∀ {p : Nat}, (∀ q : Nat, q < p → atT x.log ((q : Int) + 1) ≠ x.term) → countQ x p = x.commit
  | 0, _ => rfl
  | p + 1, h => by
    have ih := countQ_none (p := p) fun q hq => h q (by omega)
    unfold countQ
    split
    · rw [if_neg (fun hc => h p (by omega) hc.2), ih]
    · rfl
theorem countQ_eq {x : Rn} (hrise : rises x.log 1 x.term = true) : ∀ {p : Nat}, p ≤ x.log.length → countQ x p = countP x p
  | 0, _ => rfl
  | p + 1, hp => by
    unfold countQ countP
    have ih := countQ_eq hrise (p := p) (by omega)
    by_cases ht : atT x.log ((p : Int) + 1) = x.term
    · by_cases hc : x.commit < (p : Int) + 1
      · by_cases hm : x.n < 2 * haveC x ((p : Int) + 1)
        · simp [ht, hc, hm]
        · simp [ht, hc, hm, ih]
      · simp [ht, hc]
    · have hn : countQ x p = x.commit := countQ_none fun q hq he => by
        have h1 := atT_mono hrise (p := q) (q := p) (by omega) (by omega)
        have h2 := (atT_bound (p := (p : Int) + 1) hrise (by
          have := rises_mem hrise x.log[p] (List.getElem_mem (by omega)); omega)).2
        omega
      by_cases hc : x.commit < (p : Int) + 1
      · simp [ht, hc, hn]
      · simp [ht, hc]
def cntM (x : Rn) (at_ : Int) (j : Nat) : Int := 1 + (((oth x.id j).filter fun k => decide (at_ ≤ x.mt k)).length : Int)
theorem cntM_id {x : Rn} {at_ : Int} {j : Nat} (h : (j : Int) + 1 = x.id) : cntM x at_ (j + 1) = cntM x at_ j := by unfold cntM; rw [oth_id h]
theorem cntM_yes {x : Rn} {at_ : Int} {j : Nat} (h : (j : Int) + 1 ≠ x.id) (hm : at_ ≤ x.mt ((j : Int) + 1)) : cntM x at_ (j + 1) = cntM x at_ j + 1 := by unfold cntM; rw [oth_snoc h, List.filter_append]; simp [hm]; omega
theorem cntM_no {x : Rn} {at_ : Int} {j : Nat} (h : (j : Int) + 1 ≠ x.id) (hm : ¬ at_ ≤ x.mt ((j : Int) + 1)) : cntM x at_ (j + 1) = cntM x at_ j := by unfold cntM; rw [oth_snoc h, List.filter_append]; simp [hm]
theorem cntM_all {x : Rn} {at_ : Int} : cntM x at_ x.n.toNat = haveC x at_ := rfl
theorem cntM_bound {x : Rn} {at_ : Int} {j : Nat} : 0 ≤ cntM x at_ j ∧ cntM x at_ j ≤ j + 1 := by
  have h1 := List.length_filter_le (fun k => decide (at_ ≤ x.mt k)) (oth x.id j)
  have h2 := oth_len (id := x.id) (n := j)
  unfold cntM; omega
theorem ref_count {w0 : World} {R : List HProp} {p : Nat} {x : Rn} (hr : x.role = 2) (hn : 0 ≤ x.n ∧ x.n ≤ 5) (hl : x.log.length ≤ 10000) (hcm : 0 ≤ x.commit) (hrise : rises x.log 1 x.term = true) :
    Fun Try.prog w0 54 [.pointer (some ⟨p, 0, none⟩)] (rnode p x :: R) (Ret w0 (fun _ : Unit => True) (fun _ => .tuple #[]) (fun _ => rnode p (countS x) :: R)) := by
  refine Fun.ex (fun w h => rnode_open h) ?_
  rintro ⟨base, c, V, N, M⟩ ⟨hc, hrel⟩
  dsimp only at hc hrel ⊢
  have hQ : (countS x).commit = countQ x x.log.length := (countQ_eq hrise (Nat.le_refl _)).symm
  refine Fun.enter Try.func54 rfl Try.ntmps54 rfl ?_
  refine WC.seq <| WC.region <| sv (vmP rfl) <| clx (by repeat' (first | with_reducible exact Sb.all | exact Sb.nil | (apply Sb.cons; focus (first | ((repeat (first | with_reducible exact Tk.here | with_reducible apply Tk.there)); done) | ((repeat (first | exact Tk.here | apply Tk.there)); done))) | apply Sb.drop)) (ref_last (x := x) (base := base) (c := c) (V := V) (N := N) (M := M)) ct42 rfl fun r1 hr1 => ?_
  refine sv (vaI rfl) <| WL.nil <| WX.thenN <| WC.block <| ?_
  refine WC.loop (ι := Nat × Bool) (fun i => [(2, .int .i64 i.1)]) [(0, .pointer _)] (fun i => cel p (rcells (if i.2 then countS x else x) base c V N M) 54 :: row base c 2 39 (cvs x.log) :: R) (fun i => i.1 ≤ x.log.length ∧ (if i.2 then (i.1 : Int) ≤ (countS x).commit else countQ x x.log.length = countQ x i.1)) (fun i => i.1) ((x.log.length, false)) (⟨Nat.le_refl _, rfl⟩) ⟨rfl, trivial⟩ ⟨rfl, trivial⟩ (fun _ h => Sb.own (by repeat' (first | with_reducible exact Sb.all | exact Sb.nil | (apply Sb.cons; focus (first | ((repeat (first | with_reducible exact Tk.here | with_reducible apply Tk.there)); done) | ((repeat (first | exact Tk.here | apply Tk.there)); done))) | apply Sb.drop)) h) ?_
  rintro ⟨q, d⟩ ⟨hi, hd⟩ ρh
  dsimp only at hi hd ⊢
  cases d
  · -- a
    rw [if_neg (by simp)] at hd ⊢
    refine WC.seq <| WC.seq <| WC.region <| sv (vmI rfl) <| sv (vmP rfl) <| sv (vnil rfl) <| sv (vfldp fl54f5 rfl) <| sv (vldc pl3 rfl) <| sv (vgt rfl rfl) <| WL.nil <| WX.thenN <| ?_
    refine WC.ite rfl (fun h1 => ?_) (fun h1 => ?_)
    · -- then
      obtain ⟨q, rfl⟩ : ∃ j, q = j + 1 := ⟨q - 1, by omega⟩
      refine WC.skip <| WX.thenN <| WC.seq <| WC.block <| WC.seq <| WC.region <| sv (vaI rfl) <| WL.nil <| WX.thenN <| WC.seq <| WC.seq <| WC.region <| sv (vaI rfl) <| WL.nil <| WX.thenN <| WC.block <| ?_
      refine WC.loopS (ι := Nat) (fun i => [(3, .int .i64 (cntM x ((q : Int) + 1) i)), (4, .int .i64 ((i : Int) + 1))]) [(0, .pointer _), (2, .int _ _)] (fun i => i ≤ x.n.toNat) (fun i => x.n.toNat - i) (0) (by omega) ⟨rfl, rfl, trivial⟩ ⟨rfl, rfl, trivial⟩ ?_
      intro j hj ρh
      have hb := cntM_bound (x := x) (at_ := (q : Int) + 1) (j := j)
      refine WC.seq <| WC.seq <| WC.region <| sv (vmI rfl) <| sv (vmP rfl) <| sv (vnil rfl) <| sv (vfldp fl54f1 rfl) <| sv (vldc pl3 rfl) <| sv (vle rfl rfl) <| WL.nil <| WX.thenN <| ?_
      refine WC.ite rfl (fun h2 => ?_) (fun h2 => ?_)
      · -- then
        have hMk : (j : Int) + 1 ≠ x.id → M ((j : Int) + 1).toNat = x.mt ((j : Int) + 1) := fun hne => (hrel.peers hr (j + 1) (oth_mem.2 ⟨by omega, by omega, hne⟩)).2
        refine WC.skip <| WX.thenN <| WC.seq <| WC.block <| ?_
        refine WC.cutS [(38, .bool (decide ((j : Int) + 1 ≠ x.id ∧ (q : Int) + 1 ≤ M ((j : Int) + 1).toNat)))] [(0, .pointer _), (2, .int _ _), (3, .int _ _), (4, .int _ _)] ⟨rfl, rfl, rfl, rfl, trivial⟩ ?_ fun ρh => ?_
        · -- ref.go:101
          refine WC.region <| sv (vmI rfl) <| sv (vmP rfl) <| sv (vnil rfl) <| sv (vfldpz fl54f0 rfl) <| sv (vldc pl3 rfl) <| svs (vne rfl rfl) (fun q1 => ?_) (fun q1 => ?_)
          ·
            exact sv (vmB rfl) <| svg rfl (vmP rfl) <| svg rfl (vmI rfl) <| svg rfl (vnil rfl) <| svg rfl (vfldp fl54f9 rfl) <| svg rfl (vixap Try.underlying52 sz3 rfl rfl (by omega) (by omega)) <| svg rfl (vldx pl3 rfl (rc_M (by omega))) <| svg rfl (vmI rfl) <| svg rfl (vge rfl rfl) <| sv (vpkt rfl) <| WL.nil <| WX.mid () trivial ⟨bI (by first | omega | simp_all | grind), trivial⟩ ⟨rfl, rfl, rfl, rfl, trivial⟩ (fun _ h => Sb.own (by repeat' (first | with_reducible exact Sb.all | exact Sb.nil | (apply Sb.cons; focus (first | ((repeat (first | with_reducible exact Tk.here | with_reducible apply Tk.there)); done) | ((repeat (first | exact Tk.here | apply Tk.there)); done))) | apply Sb.drop)) h)
          ·
            exact sv (vmB rfl) <| sng rfl <| sng rfl <| sng rfl <| sng rfl <| sng rfl <| sng rfl <| sng rfl <| sng rfl <| sv (vpkf rfl) <| WL.nil <| WX.mid () trivial ⟨bF (by first | omega | simp_all | grind), trivial⟩ ⟨rfl, rfl, rfl, rfl, trivial⟩ (fun _ h => Sb.own (by repeat' (first | with_reducible exact Sb.all | exact Sb.nil | (apply Sb.cons; focus (first | ((repeat (first | with_reducible exact Tk.here | with_reducible apply Tk.there)); done) | ((repeat (first | exact Tk.here | apply Tk.there)); done))) | apply Sb.drop)) h)
        refine WC.ite rfl (fun h3 => ?_) (fun h3 => ?_)
        · -- then
          exact WC.region <| sv (vmI rfl) <| sv (vadd rfl rfl (by omega)) <| sv (vaI rfl) <| WL.nil <| WX.blockN <| WX.thenN <| WC.region <| sv (vmI rfl) <| sv (vadd rfl rfl (by omega)) <| sv (vaI rfl) <| WL.nil <| WX.again (j + 1) (by omega) (by omega) ⟨iv (by rw [cntM_yes h3.1 (by rw [← hMk h3.1]; exact h3.2)]), rfl, trivial⟩ ⟨rfl, rfl, trivial⟩ (fun _ h => Sb.own (by repeat' (first | with_reducible exact Sb.all | exact Sb.nil | (apply Sb.cons; focus (first | ((repeat (first | with_reducible exact Tk.here | with_reducible apply Tk.there)); done) | ((repeat (first | exact Tk.here | apply Tk.there)); done))) | apply Sb.drop)) h)
        · -- else
          exact WC.skip <| WX.blockN <| WX.thenN <| WC.region <| sv (vmI rfl) <| sv (vadd rfl rfl (by omega)) <| sv (vaI rfl) <| WL.nil <| WX.again (j + 1) (by omega) (by omega) ⟨iv (by by_cases hne : (j : Int) + 1 = x.id; rw [cntM_id hne]; rw [cntM_no hne (by rw [← hMk hne]; exact fun hh => h3 ⟨hne, hh⟩)]), rfl, trivial⟩ ⟨rfl, rfl, trivial⟩ (fun _ h => Sb.own (by repeat' (first | with_reducible exact Sb.all | exact Sb.nil | (apply Sb.cons; focus (first | ((repeat (first | with_reducible exact Tk.here | with_reducible apply Tk.there)); done) | ((repeat (first | exact Tk.here | apply Tk.there)); done))) | apply Sb.drop)) h)
      · -- else
        have hj2 : j = x.n.toNat := by omega
        subst hj2
        refine WC.exit <| WX.thenE <| WX.thenE <| WX.blockH <| WX.thenN <| ?_
        refine WC.cutS [(58, .bool (decide (x.n < 2 * cntM x ((q : Int) + 1) x.n.toNat ∧ atT x.log ((q : Int) + 1) = x.term)))] [(0, .pointer _), (2, .int _ _)] ⟨rfl, rfl, trivial⟩ ?_ fun ρh => ?_
        · -- ref.go:105
          refine WC.draws rfl (by kernel_rfl) <| qv (vmI rfl) <| qv (vmul rfl rfl (by omega)) <| qv (vmP rfl) <| qv (vnil rfl) <| qv (vfldp fl54f1 rfl) <| qv (vldc pl3 rfl) <| qvs (vgt rfl rfl) (fun q2 => ?_) (fun q2 => ?_)
          ·
            exact qv (vmB rfl) <| qvg rfl (vmP rfl) <| qvg rfl (vmI rfl) <| qclg rfl (Fun.quiet (ref_term (x := x) (base := base) (c := c) (V := V) (N := N) (M := M) hl)) ct43 rfl <| qvg rfl (vmP rfl) <| qvg rfl (vnil rfl) <| qvg rfl (vfldp fl54f2 rfl) <| qvg rfl (vfldpz fl24f0 rfl) <| qvg rfl (vldc pl3 rfl) <| qvg rfl (veq rfl rfl) <| qv (vpkt rfl) <| WQ.nil <| WX.mid () trivial ⟨bI (by first | omega | simp_all | grind), trivial⟩ ⟨rfl, rfl, trivial⟩ (fun _ h => Sb.own (by repeat' (first | with_reducible exact Sb.all | exact Sb.nil | (apply Sb.cons; focus (first | ((repeat (first | with_reducible exact Tk.here | with_reducible apply Tk.there)); done) | ((repeat (first | exact Tk.here | apply Tk.there)); done))) | apply Sb.drop)) h)
          ·
            exact qv (vmB rfl) <| qng rfl <| qng rfl <| qng rfl <| qng rfl <| qng rfl <| qng rfl <| qng rfl <| qng rfl <| qng rfl <| qv (vpkf rfl) <| WQ.nil <| WX.mid () trivial ⟨bF (by first | omega | simp_all | grind), trivial⟩ ⟨rfl, rfl, trivial⟩ (fun _ h => Sb.own (by repeat' (first | with_reducible exact Sb.all | exact Sb.nil | (apply Sb.cons; focus (first | ((repeat (first | with_reducible exact Tk.here | with_reducible apply Tk.there)); done) | ((repeat (first | exact Tk.here | apply Tk.there)); done))) | apply Sb.drop)) h)
        refine WC.ite rfl (fun h4 => ?_) (fun h4 => ?_)
        · -- then
          have h4' : x.n < 2 * haveC x ((q : Int) + 1) ∧ atT x.log ((q : Int) + 1) = x.term := h4
          have hq2 : (countS x).commit = (q : Int) + 1 := by rw [hQ, hd]; unfold countQ; rw [if_pos (by omega), if_pos h4']
          exact WC.region <| sv (vmP rfl) <| sv (vmI rfl) <| sv (vnil rfl) <| sv (vfldp fl54f5 rfl) <| stp (v := .int _ _) pl3 sz3 rfl rfl rfl <| WL.nil <| WX.blockN <| WX.thenN <| WC.region <| sv (vmI rfl) <| sv (vsub rfl rfl (by omega)) <| sv (vaI rfl) <| WL.nil <| WX.again ((q, true)) (⟨by omega, by rw [if_pos rfl, hq2]; omega⟩) (by omega) ⟨iv (by show (((q + 1 : Nat) : Int) - 1) = (q : Int); omega), trivial⟩ ⟨rfl, trivial⟩ (fun w h => by rw [if_pos rfl]; unfold rcells; rw [hq2]; exact Sb.own (by repeat' (first | with_reducible exact Sb.all | exact Sb.nil | (apply Sb.cons; focus (first | ((repeat (first | with_reducible exact Tk.here | with_reducible apply Tk.there)); done) | ((repeat (first | exact Tk.here | apply Tk.there)); done))) | apply Sb.drop)) h)
        · -- else
          have h4' : ¬ (x.n < 2 * haveC x ((q : Int) + 1) ∧ atT x.log ((q : Int) + 1) = x.term) := h4
          exact WC.skip <| WX.blockN <| WX.thenN <| WC.region <| sv (vmI rfl) <| sv (vsub rfl rfl (by omega)) <| sv (vaI rfl) <| WL.nil <| WX.again ((q, false)) (⟨by omega, by rw [if_neg (by simp), hd]; show countQ x (q + 1) = _; rw [countQ, if_pos (by omega), if_neg h4']⟩) (by omega) ⟨iv (by show (((q + 1 : Nat) : Int) - 1) = (q : Int); omega), trivial⟩ ⟨rfl, trivial⟩ (fun _ h => Sb.own (by repeat' (first | with_reducible exact Sb.all | exact Sb.nil | (apply Sb.cons; focus (first | ((repeat (first | with_reducible exact Tk.here | with_reducible apply Tk.there)); done) | ((repeat (first | exact Tk.here | apply Tk.there)); done))) | apply Sb.drop)) h)
    · -- else
      have hq2 : (countS x).commit = x.commit := by
        rw [hQ, hd]
        cases q with
        | zero => rfl
        | succ q => unfold countQ; rw [if_neg (by omega)]
      exact WC.exit <| WX.thenE <| WX.thenE <| WX.blockH <| WX.end0 rfl (()) (trivial) rfl (fun w h => rnode_mk (x := countS x) hc (hrel.same rfl rfl ⟨rfl, rfl⟩ ⟨rfl, rfl⟩) (by unfold rcells; rw [hq2]; exact h))
  · -- b
    rw [if_pos rfl] at hd ⊢
    refine WC.seq <| WC.seq <| WC.region <| sv (vmI rfl) <| sv (vmP rfl) <| sv (vnil rfl) <| sv (vfldp fl54f5 rfl) <| sv (vldc pl3 rfl) <| sv (vgt rfl rfl) <| WL.nil <| WX.thenN <| ?_
    refine WC.ite rfl (fun h5 => ?_) (fun h5 => ?_)
    · -- then
      exact absurd h5 (by omega)
    · -- else
      exact WC.exit <| WX.thenE <| WX.thenE <| WX.blockH <| WX.end0 rfl (()) (trivial) rfl (fun w h => rnode_mk (x := countS x) hc (hrel.same rfl rfl ⟨rfl, rfl⟩ ⟨rfl, rfl⟩) h)
end Go.Proofs.Ytekoilhjlofncaa
