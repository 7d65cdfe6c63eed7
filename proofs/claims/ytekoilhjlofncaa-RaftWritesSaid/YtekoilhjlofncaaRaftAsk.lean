/-
  Layer 19: asked for a vote; a vote.
-/
import Derived.Test.YtekoilhjlofncaaRaftTick
set_option linter.unusedVariables false
set_option linter.unusedSimpArgs false
set_option maxRecDepth 4000
namespace Go.Proofs.Ytekoilhjlofncaa
open Go.Sl Go.RowKit Go.Raft

theorem one_mail {w0 w : World} {A : List HProp} {b : Nat} {h : Mh} (H : Own w0 (cel b (mv h) 28 :: row h.cs.base h.cs.cap 2 39 (cvs h.cs.xs) :: A) w) : Own w0 (row (some ⟨b, 0, none⟩) 1 9 28 (mvs [h]) :: mrows [h] :: A) w := by
  have h1 := H.cel_row (c := 1) (s := 9) rfl (by simp [maxLen])
  have h2 : Own w0 (mrows [h] :: row (some ⟨b, 0, none⟩) 1 9 28 (mv h) :: A) w := (h1.pk1.intro_emp.pk1).intro_star
  exact h2.pk1
theorem one_mail0 {w0 w : World} {A : List HProp} {b : Nat} {h : Mh} (hc : h.cs = ⟨none, [], 0⟩) (H : Own w0 (cel b (mv h) 28 :: A) w) : Own w0 (row (some ⟨b, 0, none⟩) 1 9 28 (mvs [h]) :: mrows [h] :: A) w :=
  one_mail (by rw [hc]; exact H.intro_row_nil.pk1)
abbrev voteH (x : Rn) (m : Mh) (ok : Bool) : Mh := ⟨2, x.id, m.fr, x.term, 0, 0, 0, ok, ⟨none, [], 0⟩⟩
theorem raft_asked {w0 : World} {A : List HProp} {p : Nat} {x : Rn} {m : Mh} (hx : RInv x) :
    Fun Try.prog w0 45 [.pointer (some ⟨p, 0, none⟩), .agg (mv m).toArray] (hnode p x :: A) (MR w0 p A (askedS x m.ml)) := by
  refine Fun.ex (fun w h => hnode_open h) ?_
  rintro ⟨base, c, vv, pv⟩ hc
  dsimp only at hc ⊢
  have hl := hx.log
  obtain ⟨lst, hlst⟩ : ∃ lst, lst = atT x.log x.log.length := ⟨_, rfl⟩
  refine Fun.enter Try.func45 rfl Try.ntmps45 rfl ?_
  refine WC.seq <| WC.region <| bxc (v := .agg _) (cs := [.int _ _, .int _ _, .int _ _, .int _ _, .int _ _, .int _ _, .int _ _, .bool _, .slice _ _ _]) rfl rfl fun b1 => sv (vaS rfl) <| WL.nil <| WX.thenN <| WC.seq <| WC.region <| sv (vmP rfl) <| sv (vfld fl28f1 rfl) <| sv (vldc pl3 rfl) <| cl (raft_mail (x := x) (base := base) (c := c) (vv := vv) (pv := pv)) ct38 rfl fun _ _ => alz (cs := [.int .i64 0, .int .i64 0, .int .i64 0, .int .i64 0, .int .i64 0, .int .i64 0, .int .i64 0, .bool false, .slice none 0 0]) zt28 (by rfl) fun b4 => stA sz28 rfl rfl rfl rfl (hone) <| WL.nil <| WX.thenN <| WC.seq <| WC.region <| sv (vmP rfl) <| sv (vmP rfl) <| sv (vnil rfl) <| sv (vfld fl76f4 rfl) <| sv (vldc pl22 rfl) <| sv (vlen Try.underlying22 rfl) <| cl (raft_at (x := x) (base := base) (c := c) (vv := vv) (pv := pv) hl) ct39 rfl fun _ _ => ?_
  rw [← hlst]
  refine sv (vaI rfl) <| WL.nil <| WX.thenN <| ?_
  refine WC.cut0 [(7, .bool (decide (lst < m.prev ∨ m.prev = lst ∧ (x.log.length : Int) ≤ m.index)))] [(0, .pointer _), (3, _), (5, _)] (cel b4 (mv (voteH x m false)) 28 :: cel b1 (mv m) 28 :: cel p (ncells x base c vv pv) 76 :: row base c 2 39 (cvs x.log) :: extraC x vv pv :: A) ⟨rfl, rfl, rfl, trivial⟩ ?_ fun ρh => ?_
  · -- raft.go:184
    refine WC.draws rfl (by kernel_rfl) <| qv (vfld fl28f5 rfl) <| qv (vldc pl3 rfl) <| qv (vmI rfl) <| qvs (vgt rfl rfl) (fun q1 => ?_) (fun q1 => ?_)
    ·
      exact qv (vmB rfl) <| qng rfl <| qng rfl <| qng rfl <| qng rfl <| qng rfl <| qng rfl <| qng rfl <| qng rfl <| qng rfl <| qng rfl <| qng rfl <| qng rfl <| qng rfl <| qng rfl <| qv (vpkt rfl) <| qv (vaB rfl) <| WQ.nil <| WX.mid () trivial ⟨bT (by first | omega | simp_all | grind), trivial⟩ ⟨rfl, rfl, rfl, trivial⟩ (fun _ h => h)
    ·
      refine qv (vmB rfl) <| qvg rfl (vfld fl28f5 rfl) <| qvg rfl (vldc pl3 rfl) <| qvg rfl (vmI rfl) <| qvsg rfl (veq rfl rfl) (fun q2 => ?_) (fun q2 => ?_)
      ·
        exact qvg rfl (vmB rfl) <| qvg rfl (vfld fl28f4 rfl) <| qvg rfl (vldc pl3 rfl) <| qvg rfl (vmP rfl) <| qvg rfl (vnil rfl) <| qvg rfl (vfld fl76f4 rfl) <| qvg rfl (vldc pl22 rfl) <| qvg rfl (vlen Try.underlying22 rfl) <| qvg rfl (vge rfl rfl) <| qvg rfl (vpkt rfl) <| qv (vpkf rfl) <| qv (vaB rfl) <| WQ.nil <| WX.mid () trivial ⟨bI (by first | omega | simp_all | grind), trivial⟩ ⟨rfl, rfl, rfl, trivial⟩ (fun _ h => h)
      ·
        exact qvg rfl (vmB rfl) <| qng rfl <| qng rfl <| qng rfl <| qng rfl <| qng rfl <| qng rfl <| qng rfl <| qng rfl <| qvg rfl (vpkf rfl) <| qv (vpkf rfl) <| qv (vaB rfl) <| WQ.nil <| WX.mid () trivial ⟨bF (by first | omega | simp_all | grind), trivial⟩ ⟨rfl, rfl, rfl, trivial⟩ (fun _ h => h)
  refine WC.seq <| ?_
  refine WC.cut0 [(71, .bool (decide (m.term = x.term ∧ (x.vote = 0 ∨ x.vote = m.fr) ∧ x.role = 0 ∧ (lst < m.prev ∨ m.prev = lst ∧ (x.log.length : Int) ≤ m.index))))] [(0, .pointer _), (3, _), (5, _)] (cel b4 (mv (voteH x m false)) 28 :: cel b1 (mv m) 28 :: cel p (ncells x base c vv pv) 76 :: row base c 2 39 (cvs x.log) :: extraC x vv pv :: A) ⟨rfl, rfl, rfl, trivial⟩ ?_ fun ρh => ?_
  · -- raft.go:185
    refine WC.draws rfl (by kernel_rfl) <| qv (vfld fl28f3 rfl) <| qv (vldc pl3 rfl) <| qv (vmP rfl) <| qv (vnil rfl) <| qv (vfld fl76f2 rfl) <| qv (vldc pl3 rfl) <| qvs (veq rfl rfl) (fun q3 => ?_) (fun q3 => ?_)
    ·
      refine qv (vmB rfl) <| qvg rfl (vmP rfl) <| qvg rfl (vnil rfl) <| qvg rfl (vfld fl76f3 rfl) <| qvg rfl (vldc pl3 rfl) <| qvsg rfl (veq rfl rfl) (fun q4 => ?_) (fun q4 => ?_)
      ·
        refine qvg rfl (vmB rfl) <| qng rfl <| qng rfl <| qng rfl <| qng rfl <| qng rfl <| qng rfl <| qng rfl <| qvg rfl (vpkt rfl) <| qv (vpkt rfl) <| qv (vmB rfl) <| qvg rfl (vmP rfl) <| qvg rfl (vnil rfl) <| qvg rfl (vfld fl76f5 rfl) <| qvg rfl (vldc pl3 rfl) <| qvsg rfl (veq rfl rfl) (fun q5 => ?_) (fun q5 => ?_)
        ·
          exact qv (vpkt rfl) <| qv (vmB rfl) <| qvg rfl (vmB rfl) <| qv (vpkt rfl) <| WQ.nil <| WX.mid () trivial ⟨bI (by first | omega | simp_all | grind), trivial⟩ ⟨rfl, rfl, rfl, trivial⟩ (fun _ h => h)
        ·
          exact qv (vpkt rfl) <| qv (vmB rfl) <| qng rfl <| qv (vpkf rfl) <| WQ.nil <| WX.mid () trivial ⟨bF (by first | omega | simp_all | grind), trivial⟩ ⟨rfl, rfl, rfl, trivial⟩ (fun _ h => h)
      ·
        refine qvg rfl (vmB rfl) <| qvg rfl (vmP rfl) <| qvg rfl (vnil rfl) <| qvg rfl (vfld fl76f3 rfl) <| qvg rfl (vldc pl3 rfl) <| qvg rfl (vfld fl28f1 rfl) <| qvg rfl (vldc pl3 rfl) <| qvsg rfl (veq rfl rfl) (fun q6 => ?_) (fun q6 => ?_)
        ·
          refine qvg rfl (vpkf rfl) <| qv (vpkt rfl) <| qv (vmB rfl) <| qvg rfl (vmP rfl) <| qvg rfl (vnil rfl) <| qvg rfl (vfld fl76f5 rfl) <| qvg rfl (vldc pl3 rfl) <| qvsg rfl (veq rfl rfl) (fun q7 => ?_) (fun q7 => ?_)
          ·
            exact qv (vpkt rfl) <| qv (vmB rfl) <| qvg rfl (vmB rfl) <| qv (vpkt rfl) <| WQ.nil <| WX.mid () trivial ⟨bI (by first | omega | simp_all | grind), trivial⟩ ⟨rfl, rfl, rfl, trivial⟩ (fun _ h => h)
          ·
            exact qv (vpkt rfl) <| qv (vmB rfl) <| qng rfl <| qv (vpkf rfl) <| WQ.nil <| WX.mid () trivial ⟨bF (by first | omega | simp_all | grind), trivial⟩ ⟨rfl, rfl, rfl, trivial⟩ (fun _ h => h)
        ·
          exact qvg rfl (vpkf rfl) <| qv (vpkt rfl) <| qv (vmB rfl) <| qng rfl <| qng rfl <| qng rfl <| qng rfl <| qng rfl <| qv (vpkf rfl) <| qv (vmB rfl) <| qng rfl <| qv (vpkf rfl) <| WQ.nil <| WX.mid () trivial ⟨bF (by first | omega | simp_all | grind), trivial⟩ ⟨rfl, rfl, rfl, trivial⟩ (fun _ h => h)
    ·
      exact qv (vmB rfl) <| qng rfl <| qng rfl <| qng rfl <| qng rfl <| qng rfl <| qng rfl <| qng rfl <| qng rfl <| qng rfl <| qng rfl <| qng rfl <| qng rfl <| qng rfl <| qng rfl <| qv (vpkf rfl) <| qv (vmB rfl) <| qng rfl <| qng rfl <| qng rfl <| qng rfl <| qng rfl <| qv (vpkf rfl) <| qv (vmB rfl) <| qng rfl <| qv (vpkf rfl) <| WQ.nil <| WX.mid () trivial ⟨bF (by first | omega | simp_all | grind), trivial⟩ ⟨rfl, rfl, rfl, trivial⟩ (fun _ h => h)
  refine WC.ite rfl (fun h1 => ?_) (fun h1 => ?_)
  · -- then
    have hv : voteOk x m.ml := by unfold voteOk; rw [← hlst]; exact h1
    have ht : askedS x m.ml = ({ x with vote := m.fr, waited := 0 }, [(voteH x m true).ml]) := by unfold askedS; rw [if_pos hv, decide_eq_true hv]; rfl
    unfold MR
    rw [ht]
    · -- a
      exact WC.region <| sv (vmP rfl) <| sv (vmP rfl) <| sv (vfld fl28f1 rfl) <| sv (vldc pl3 rfl) <| sv (vnil rfl) <| sv (vfld fl76f3 rfl) <| pm (fun _ h => h.pk2) <| stc (v := .int _ _) pl3 sz3 rfl rfl rfl <| sv (vnil rfl) <| sv (vfld fl76f8 rfl) <| stc (v := .int _ _) pl3 sz3 rfl rfl rfl <| sv (vfld fl28f7 rfl) <| pm (fun _ h => h.pk1) <| stc (v := .bool _) pl4 sz4 rfl rfl rfl <| WL.nil <| WX.thenN <| WC.seq <| WC.region <| sv (vldac ag28 sz28 rfl rfl (by decide)) <| bslA (v := .agg _) (cs := mv (voteH x m true)) Try.underlying43 zt28 rfl rfl rfl (by decide) (by decide) fun b23 =>sv (vaS rfl) <| WL.nil <| WX.thenN <| WC.ret <| WX.ret1 rfl ((some ⟨b23, 0, none⟩, 1, [voteH x m true])) (⟨rfl, Nat.le_refl _⟩) rfl (fun w h => ((hnode_mk (x := { x with vote := m.fr, waited := 0 }) hc ((one_mail0 rfl h).ix [3, 5, 6, 0, 1, 2, 4])).ix [3, 4, 1, 2, 0]).tail.tail)
  · -- else
    have hv : ¬ voteOk x m.ml := by unfold voteOk; rw [← hlst]; exact h1
    have ht : askedS x m.ml = (x, [(voteH x m false).ml]) := by unfold askedS; rw [if_neg hv, decide_eq_false hv]; rfl
    unfold MR
    rw [ht]
    · -- b
      exact WC.skip <| WX.thenN <| WC.seq <| WC.region <| sv (vldac ag28 sz28 rfl rfl (by decide)) <| bslA (v := .agg _) (cs := mv (voteH x m false)) Try.underlying43 zt28 rfl rfl rfl (by decide) (by decide) fun b23 =>sv (vaS rfl) <| WL.nil <| WX.thenN <| WC.ret <| WX.ret1 rfl ((some ⟨b23, 0, none⟩, 1, [voteH x m false])) (⟨rfl, Nat.le_refl _⟩) rfl (fun w h => ((hnode_mk (x := x) hc ((one_mail0 rfl h).ix [4, 5, 6, 0, 1, 2, 3])).ix [3, 4, 1, 2, 0]).tail.tail)
end Go.Proofs.Ytekoilhjlofncaa
