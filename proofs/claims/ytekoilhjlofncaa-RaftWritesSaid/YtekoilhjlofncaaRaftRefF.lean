/-
  Layer 19's reference: answers; a mail.
-/
import Derived.Test.YtekoilhjlofncaaRaftRefE
set_option linter.unusedVariables false
set_option linter.unusedSimpArgs false
set_option maxRecDepth 4000
namespace Go.Proofs.Ytekoilhjlofncaa
open Go.Sl Go.RowKit Go.Raft

theorem RelR.put {x y : Rn} {V : Nat → Bool} {N M N' M' : Nat → Int} {k : Int} (h : RelR x V N M) (hr : x.role = 2) (hy : y.role = 2) (hi : y.id = x.id ∧ y.n = x.n) (hk : 0 ≤ k)
    (h1 : N' k.toNat = y.nx k ∧ M' k.toNat = y.mt k) (h2 : ∀ j : Nat, (j : Int) ≠ k → N' j = N j ∧ M' j = M j ∧ y.nx j = x.nx j ∧ y.mt j = x.mt j) : RelR y V N' M' :=
  ⟨fun h => absurd h (by omega), fun _ j hj => by
    have hj' : (j : Int) ∈ others x := by rw [show others x = others y by unfold others; rw [hi.1, hi.2]]; exact hj
    by_cases he : (j : Int) = k
    · rw [show j = k.toNat by omega, show ((k.toNat : Nat) : Int) = k by omega]; exact h1
    · have h3 := h2 j he
      rw [h3.1, h3.2.1, h3.2.2.1, h3.2.2.2]; exact h.peers hr j hj'⟩
theorem updN_same {α : Type} {f : Nat → α} {k : Nat} {v : α} : updN f k v k = v := if_pos rfl
theorem updN_other {α : Type} {f : Nat → α} {k j : Nat} {v : α} (h : j ≠ k) : updN f k v j = f j := if_neg h
theorem ref_answer {w0 : World} {A : List HProp} {p : Nat} {x : Rn} {m : Mh} (hx : RInv x) (hko : m.fr ∈ others x) (hi : 0 ≤ m.index) :
    Fun Try.prog w0 51 [.pointer (some ⟨p, 0, none⟩), .agg (mv m).toArray] (rnode p x :: A) (MRr w0 p A (answeredS x m.ml)) := by
  refine Fun.ex (fun w h => rnode_open h) ?_
  rintro ⟨base, c, V, N, M⟩ ⟨hc, hrel⟩
  dsimp only at hc hrel ⊢
  have hl := hx.log
  have hn := hx.n
  have hcm := hx.commit
  have hk1 := oth_mem.1 (show m.fr ∈ oth x.id x.n.toNat from hko)
  refine Fun.enter Try.func51 rfl Try.ntmps51 rfl ?_
  refine WC.seq <| WC.region <| bxc (v := .agg _) (cs := [.int _ _, .int _ _, .int _ _, .int _ _, .int _ _, .int _ _, .int _ _, .bool _, .slice _ _ _]) rfl rfl fun b1 => sv (vaS rfl) <| WL.nil <| WX.thenN <| WC.seq <| ?_
  refine WC.cut0 [(27, .bool (decide (m.term ≠ x.term ∨ x.role ≠ 2 ∨ (x.log.length : Int) < m.index)))] [(0, .pointer _), (3, _)] (cel b1 (mv m) 28 :: cel p (rcells x base c V N M) 54 :: row base c 2 39 (cvs x.log) :: A) ⟨rfl, rfl, trivial⟩ ?_ fun ρh => ?_
  · -- ref.go:241
    refine WC.draws rfl (by kernel_rfl) <| qv (vfldp fl28f3 rfl) <| qv (vldc pl3 rfl) <| qv (vmP rfl) <| qv (vnil rfl) <| qv (vfldp fl54f2 rfl) <| qv (vfldpz fl24f0 rfl) <| qv (vldc pl3 rfl) <| qvs (vne rfl rfl) (fun q1 => ?_) (fun q1 => ?_)
    ·
      exact qv (vmB rfl) <| qng rfl <| qng rfl <| qng rfl <| qng rfl <| qng rfl <| qv (vpkt rfl) <| qv (vmB rfl) <| qng rfl <| qng rfl <| qng rfl <| qng rfl <| qng rfl <| qv (vpkt rfl) <| WQ.nil <| WX.mid () trivial ⟨bT (by first | omega | simp_all | grind), trivial⟩ ⟨rfl, rfl, trivial⟩ (fun _ h => Sb.own (by repeat' (first | with_reducible exact Sb.all | exact Sb.nil | (apply Sb.cons; focus (first | ((repeat (first | with_reducible exact Tk.here | with_reducible apply Tk.there)); done) | ((repeat (first | exact Tk.here | apply Tk.there)); done))) | apply Sb.drop)) h)
    ·
      refine qv (vmB rfl) <| qvg rfl (vmP rfl) <| qvg rfl (vnil rfl) <| qvg rfl (vfldp fl54f3 rfl) <| qvg rfl (vldc pl3 rfl) <| qvsg rfl (vne rfl rfl) (fun q2 => ?_) (fun q2 => ?_)
      ·
        exact qv (vpkf rfl) <| qv (vmB rfl) <| qng rfl <| qng rfl <| qng rfl <| qng rfl <| qng rfl <| qv (vpkt rfl) <| WQ.nil <| WX.mid () trivial ⟨bT (by first | omega | simp_all | grind), trivial⟩ ⟨rfl, rfl, trivial⟩ (fun _ h => Sb.own (by repeat' (first | with_reducible exact Sb.all | exact Sb.nil | (apply Sb.cons; focus (first | ((repeat (first | with_reducible exact Tk.here | with_reducible apply Tk.there)); done) | ((repeat (first | exact Tk.here | apply Tk.there)); done))) | apply Sb.drop)) h)
      ·
        exact qv (vpkf rfl) <| qv (vmB rfl) <| qvg rfl (vfldp fl28f4 rfl) <| qvg rfl (vldc pl3 rfl) <| qvg rfl (vmP rfl) <| qclg rfl (Fun.quiet (ref_last (x := x) (base := base) (c := c) (V := V) (N := N) (M := M))) ct42 rfl <| qvg rfl (vgt rfl rfl) <| qv (vpkf rfl) <| WQ.nil <| WX.mid () trivial ⟨bI (by first | omega | simp_all | grind), trivial⟩ ⟨rfl, rfl, trivial⟩ (fun _ h => Sb.own (by repeat' (first | with_reducible exact Sb.all | exact Sb.nil | (apply Sb.cons; focus (first | ((repeat (first | with_reducible exact Tk.here | with_reducible apply Tk.there)); done) | ((repeat (first | exact Tk.here | apply Tk.there)); done))) | apply Sb.drop)) h)
  refine WC.ite rfl (fun h1 => ?_) (fun h1 => ?_)
  · -- then
    rw [show answeredS x m.ml = (x, []) from if_pos h1]
    exact WC.seq <| WC.region <| sv (vaS rfl) <| WL.nil <| WX.thenN <| WC.ret <| WX.thenR <| WX.ret1 rfl ((none, 0, [])) (⟨rfl, Nat.le_refl _⟩) rfl (fun w h => no_mailsR (rnode_mk hc hrel (Sb.own (by repeat' (first | with_reducible exact Sb.all | exact Sb.nil | (apply Sb.cons; focus (first | ((repeat (first | with_reducible exact Tk.here | with_reducible apply Tk.there)); done) | ((repeat (first | exact Tk.here | apply Tk.there)); done))) | apply Sb.drop)) h)))
  · -- else
    have hr : x.role = 2 := by omega
    have hpe := hx.peers hr m.fr
    have hrk := hrel.peers hr m.fr.toNat (by rw [show ((m.fr.toNat : Nat) : Int) = m.fr by omega]; exact hko)
    rw [show ((m.fr.toNat : Nat) : Int) = m.fr by omega] at hrk
    refine WC.skip <| WX.thenN <| WC.seq <| WC.region <| sv (vfldp fl28f1 rfl) <| sv (vldc pl3 rfl) <| sv (vaI rfl) <| WL.nil <| WX.thenN <| WC.seq <| WC.seq <| WC.region <| sv (vfldp fl28f7 rfl) <| sv (vldc pl4 rfl) <| sv (vnot rfl) <| WL.nil <| WX.thenN <| ?_
    refine WC.iteb rfl (fun h2 => ?_) (fun h2 => ?_)
    · -- then
      have ho : m.ok = false := by simpa using h2
      rw [ans_bad h1 ho]
      have hnx : (badY x m).nx m.fr = max (x.mt m.fr + 1) (min (m.index + 1) (x.nx m.fr - 1)) := if_pos rfl
      refine WC.seq <| WC.plan (.bar [0, 1, 2, 3, 4, 5, 6, 7, 8, 9, 10, 11, 12, 13, 14, 15, 16, 17, 18, 19, 20, 21, 22, 23] 24 (.done [])) rfl (by kernel_rfl) <| WPl.barC <| dv (fun g => (vmP rfl)) <| dv (fun g => (vmI rfl)) <| dv (fun g => (vmP rfl)) <| dv (fun g => (vmI rfl)) <| dv (fun g => (vnil rfl)) <| dv (fun g => (vfldp fl54f9 rfl)) <| dv (fun g => (vixap Try.underlying52 sz3 rfl rfl (by omega) (by omega))) <| dv (fun g => (vw (v' := .int .i64 (x.mt m.fr)) (vldx pl3 rfl (rc_M (k := m.fr.toNat) (by omega))) (iv hrk.2))) <| dv (fun g => (vadd rfl rfl (by omega))) <| dv (fun g => (vfldp fl28f4 rfl)) <| dv (fun g => (vldc pl3 rfl)) <| dv (fun g => (vadd rfl rfl (by omega))) <| dv (fun g => (vmP rfl)) <| dv (fun g => (vmI rfl)) <| dv (fun g => (vnil rfl)) <| dv (fun g => (vfldp fl54f8 rfl)) <| dv (fun g => (vixap Try.underlying52 sz3 rfl rfl (by omega) (by omega))) <| dv (fun g => (vw (v' := .int .i64 (x.nx m.fr)) (vldx pl3 rfl (rc_N (k := m.fr.toNat) (by omega))) (iv hrk.1))) <| dv (fun g => (vsub rfl rfl (by omega))) <| dv (fun g => (vmin rfl rfl)) <| dv (fun g => (vmax rfl rfl)) <| dv (fun g => (vnil rfl)) <| dv (fun g => (vfldp fl54f8 rfl)) <| dv (fun g => (vixap Try.underlying52 sz3 rfl rfl (by omega) (by omega))) <| WD.eff rfl <| stq (v := .int .i64 (max (x.mt m.fr + 1) (min (m.index + 1) (x.nx m.fr - 1)))) pl3 sz3 rfl rfl rfl (by show _ < 28; omega) (rc_setN (by omega)) <| WL.nil <| WX.brT <| WPl.finC <| WD.nil <| WX.thenN <| WC.seq <| WC.region <| sv (vmP rfl) <| sv (vmI rfl) <| clx (by repeat' (first | with_reducible exact Sb.all | exact Sb.nil | (apply Sb.cons; focus (first | ((repeat (first | with_reducible exact Tk.here | with_reducible apply Tk.there)); done) | ((repeat (first | exact Tk.here | apply Tk.there)); done))) | apply Sb.drop)) (ref_to (x := badY x m) (base := base) (c := c) (V := V) (N := updN N m.fr.toNat (max (x.mt m.fr + 1) (min (m.index + 1) (x.nx m.fr - 1)))) (M := M) (k := m.fr) (by omega) hl hc (by rw [hnx, updN_same]) (by rw [hnx]; show 1 ≤ _ ∧ _ ≤ (x.log.length : Int) + 1; omega)) ct62 rfl fun r21 hr21 => ?_
      refine bslA (v := .agg _) (cs := mv (feedH (badY x m) m.fr r21)) Try.underlying43 zt28 rfl rfl rfl (by decide) (by decide) fun b22 => sv (vaS rfl) <| WL.nil <| WX.thenN <| WC.ret <| WX.thenR <| WX.ret1 rfl ((some ⟨b22, 0, none⟩, 1, [feedH (badY x m) m.fr r21])) (⟨rfl, Nat.le_refl _⟩) rfl (fun w h => ?_)
      have h3 := one_mail (h := feedH (badY x m) m.fr r21) (Own.sp2 (by repeat' (first | exact Spl.nil | (apply Spl.cons; focus (first | ((repeat (first | with_reducible exact Tk.here | with_reducible apply Tk.there)); done) | ((repeat (first | exact Tk.here | apply Tk.there)); done))))) h)
      have h4 := rnode_mk (x := badY x m) (N := updN N m.fr.toNat (max (x.mt m.fr + 1) (min (m.index + 1) (x.nx m.fr - 1)))) hc (hrel.put hr hr ⟨rfl, rfl⟩ (k := m.fr) (by omega) ⟨by rw [hnx, updN_same], hrk.2⟩ (fun j hj => ⟨updN_other (by omega), rfl, if_neg hj, rfl⟩)) (Own.sp2 (by repeat' (first | exact Spl.nil | (apply Spl.cons; focus (first | ((repeat (first | with_reducible exact Tk.here | with_reducible apply Tk.there)); done) | ((repeat (first | exact Tk.here | apply Tk.there)); done))))) h3)
      exact Sb.own (by repeat' (first | with_reducible exact Sb.all | exact Sb.nil | (apply Sb.cons; focus (first | ((repeat (first | with_reducible exact Tk.here | with_reducible apply Tk.there)); done) | ((repeat (first | exact Tk.here | apply Tk.there)); done))) | apply Sb.drop)) h4
    · -- else
      have ho : ¬ m.ok = false := by simpa using h2
      have hnx : (okY x m).nx m.fr = max (x.mt m.fr) m.index + 1 := if_pos rfl
      have hmt : (okY x m).mt m.fr = max (x.mt m.fr) m.index := if_pos rfl
      have hry : RelR (okY x m) V (updN N m.fr.toNat (max (x.mt m.fr) m.index + 1)) (updN M m.fr.toNat (max (x.mt m.fr) m.index)) := hrel.put hr hr ⟨rfl, rfl⟩ (k := m.fr) (by omega) ⟨by rw [hnx, updN_same], by rw [hmt, updN_same]⟩ (fun j hj => ⟨updN_other (by omega), updN_other (by omega), if_neg hj, if_neg hj⟩)
      rw [ans_ok h1 ho]
      refine WC.skip <| WX.thenN <| WC.seq <| WC.plan (.bar [0, 1, 2, 3, 4, 5, 6, 7, 8, 9, 10, 11, 12, 13] 14 (.done [])) rfl (by kernel_rfl) <| WPl.barC <| dv (fun g => (vmP rfl)) <| dv (fun g => (vmI rfl)) <| dv (fun g => (vmP rfl)) <| dv (fun g => (vmI rfl)) <| dv (fun g => (vnil rfl)) <| dv (fun g => (vfldp fl54f9 rfl)) <| dv (fun g => (vixap Try.underlying52 sz3 rfl rfl (by omega) (by omega))) <| dv (fun g => (vw (v' := .int .i64 (x.mt m.fr)) (vldx pl3 rfl (rc_M (k := m.fr.toNat) (by omega))) (iv hrk.2))) <| dv (fun g => (vfldp fl28f4 rfl)) <| dv (fun g => (vldc pl3 rfl)) <| dv (fun g => (vmax rfl rfl)) <| dv (fun g => (vnil rfl)) <| dv (fun g => (vfldp fl54f9 rfl)) <| dv (fun g => (vixap Try.underlying52 sz3 rfl rfl (by omega) (by omega))) <| WD.eff rfl <| stq (v := .int .i64 (max (x.mt m.fr) m.index)) pl3 sz3 rfl rfl rfl (by show _ < 28; omega) (rc_setM (by omega)) <| WL.nil <| WX.brT <| WPl.finC <| WD.nil <| WX.thenN <| WC.seq <| WC.plan (.bar [0, 1, 2, 3, 4, 5, 6, 7, 8, 9, 10, 11] 12 (.done [])) rfl (by kernel_rfl) <| WPl.barC <| dv (fun g => (vmP rfl)) <| dv (fun g => (vmI rfl)) <| dv (fun g => (vmP rfl)) <| dv (fun g => (vmI rfl)) <| dv (fun g => (vnil rfl)) <| dv (fun g => (vfldp fl54f9 rfl)) <| dv (fun g => (vixap Try.underlying52 sz3 rfl rfl (by omega) (by omega))) <| dv (fun g => (vw (v' := .int .i64 (max (x.mt m.fr) m.index)) (vldx pl3 rfl (rc_M (k := m.fr.toNat) (by omega))) (iv updN_same))) <| dv (fun g => (vadd rfl rfl (by omega))) <| dv (fun g => (vnil rfl)) <| dv (fun g => (vfldp fl54f8 rfl)) <| dv (fun g => (vixap Try.underlying52 sz3 rfl rfl (by omega) (by omega))) <| WD.eff rfl <| stq (v := .int .i64 (max (x.mt m.fr) m.index + 1)) pl3 sz3 rfl rfl rfl (by show _ < 28; omega) (rc_setN (by omega)) <| WL.nil <| WX.brT <| WPl.finC <| WD.nil <| WX.thenN <| WC.seq <| WC.region <| sv (vmP rfl) <| pm (fun _ h => rnode_mk (x := okY x m) hc hry (Own.sp2 (by repeat' (first | exact Spl.nil | (apply Spl.cons; focus (first | ((repeat (first | with_reducible exact Tk.here | with_reducible apply Tk.there)); done) | ((repeat (first | exact Tk.here | apply Tk.there)); done))))) h)) <| clx (by repeat' (first | with_reducible exact Sb.all | exact Sb.nil | (apply Sb.cons; focus (first | ((repeat (first | with_reducible exact Tk.here | with_reducible apply Tk.there)); done) | ((repeat (first | exact Tk.here | apply Tk.there)); done))) | apply Sb.drop)) (ref_count (x := okY x m) hr (by show 0 ≤ x.n ∧ x.n ≤ 5; omega) hl hcm.1 hx.rise) ct54 rfl fun r34 hr34 => ?_
      refine WL.ex (fun w h => rnode_open h) ?_
      rintro ⟨base, c, V, N, M⟩ ⟨hc, hrel⟩
      dsimp only at hc hrel ⊢
      have hrk := hrel.peers hr m.fr.toNat (by rw [show ((m.fr.toNat : Nat) : Int) = m.fr by omega]; exact hko)
      rw [show ((m.fr.toNat : Nat) : Int) = m.fr by omega] at hrk
      refine WL.nil <| WX.thenN <| WC.seq <| WC.seq <| WC.draws rfl (by kernel_rfl) <| qv (vmP rfl) <| qv (vmI rfl) <| qv (vnil rfl) <| qv (vfldp fl54f8 rfl) <| qv (vixap Try.underlying52 sz3 rfl rfl (by omega) (by omega)) <| qv (vw (v' := .int .i64 (max (x.mt m.fr) m.index + 1)) (vldx pl3 rfl (rc_N (x := countS (okY x m)) (k := m.fr.toNat) (by omega))) (iv (hrk.1.trans hnx))) <| qv (vmP rfl) <| qcl (Fun.quiet (ref_last (x := countS (okY x m)) (base := base) (c := c) (V := V) (N := N) (M := M))) ct42 rfl <| qv (vgt rfl rfl) <| WQ.nil <| WX.thenN <| ?_
      refine WC.ite rfl (fun h3 => ?_) (fun h3 => ?_)
      · -- then
        have h4 : (x.log.length : Int) < max (x.mt m.fr) m.index + 1 := h3
        rw [if_pos h4]
        exact WC.seq <| WC.region <| sv (vaS rfl) <| WL.nil <| WX.thenN <| WC.ret <| WX.thenR <| WX.ret1 rfl ((none, 0, [])) (⟨rfl, Nat.le_refl _⟩) rfl (fun w h => no_mailsR (rnode_mk (x := countS (okY x m)) hc hrel (Sb.own (by repeat' (first | with_reducible exact Sb.all | exact Sb.nil | (apply Sb.cons; focus (first | ((repeat (first | with_reducible exact Tk.here | with_reducible apply Tk.there)); done) | ((repeat (first | exact Tk.here | apply Tk.there)); done))) | apply Sb.drop)) h)))
      · -- else
        have h4 : ¬ (x.log.length : Int) < max (x.mt m.fr) m.index + 1 := h3
        rw [if_neg h4]
        refine WC.skip <| WX.thenN <| WC.seq <| WC.region <| sv (vmP rfl) <| sv (vmI rfl) <| clx (by repeat' (first | with_reducible exact Sb.all | exact Sb.nil | (apply Sb.cons; focus (first | ((repeat (first | with_reducible exact Tk.here | with_reducible apply Tk.there)); done) | ((repeat (first | exact Tk.here | apply Tk.there)); done))) | apply Sb.drop)) (ref_to (x := countS (okY x m)) (base := base) (c := c) (V := V) (N := N) (M := M) (k := m.fr) (by omega) hl hc hrk.1 (by show 1 ≤ (okY x m).nx m.fr ∧ (okY x m).nx m.fr ≤ (x.log.length : Int) + 1; rw [hnx]; omega)) ct62 rfl fun r38 hr38 => ?_
        refine bslA (v := .agg _) (cs := mv (feedH (countS (okY x m)) m.fr r38)) Try.underlying43 zt28 rfl rfl rfl (by decide) (by decide) fun b39 => sv (vaS rfl) <| WL.nil <| WX.thenN <| WC.ret <| WX.ret1 rfl ((some ⟨b39, 0, none⟩, 1, [feedH (countS (okY x m)) m.fr r38])) (⟨rfl, Nat.le_refl _⟩) rfl (fun w h => ?_)
        have h5 := one_mail (h := feedH (countS (okY x m)) m.fr r38) (Own.sp2 (by repeat' (first | exact Spl.nil | (apply Spl.cons; focus (first | ((repeat (first | with_reducible exact Tk.here | with_reducible apply Tk.there)); done) | ((repeat (first | exact Tk.here | apply Tk.there)); done))))) h)
        have h6 := rnode_mk (x := countS (okY x m)) hc hrel (Own.sp2 (by repeat' (first | exact Spl.nil | (apply Spl.cons; focus (first | ((repeat (first | with_reducible exact Tk.here | with_reducible apply Tk.there)); done) | ((repeat (first | exact Tk.here | apply Tk.there)); done))))) h5)
        exact Sb.own (by repeat' (first | with_reducible exact Sb.all | exact Sb.nil | (apply Sb.cons; focus (first | ((repeat (first | with_reducible exact Tk.here | with_reducible apply Tk.there)); done) | ((repeat (first | exact Tk.here | apply Tk.there)); done))) | apply Sb.drop)) h6
theorem rel_step {x : Rn} {m : Ml} {V : Nat → Bool} {N M : Nat → Int} (h : RelR x V N M) : RelR (stepS m x) V N M := by
  unfold stepS
  split
  · exact RelR.follow (by show ¬ (0 : Int) = 1; decide) (by show ¬ (0 : Int) = 2; decide)
  · exact h
theorem ref_take {w0 : World} {A : List HProp} {p : Nat} {x : Rn} {m : Mh} (hx : RInv x) (hml : m.cs.xs.length ≤ 1099511627776) (hcc : m.cs.xs.length ≤ m.cs.cap) [hR : Reads w0 A m.cs.base (cvs m.cs.xs)] :
    Fun Try.prog w0 18 [.pointer (some ⟨p, 0, none⟩), .agg (mv m).toArray] (rnode p x :: A) (MRr w0 p A (takeS x m.ml)) := by
  refine Fun.ex (fun w h => rnode_open h) ?_
  rintro ⟨base, c, V, N, M⟩ ⟨hc, hrel⟩
  dsimp only at hc hrel ⊢
  refine Fun.enter Try.func18 rfl Try.ntmps18 rfl ?_
  refine WC.seq <| WC.region <| bxc (v := .agg _) (cs := [.int _ _, .int _ _, .int _ _, .int _ _, .int _ _, .int _ _, .int _ _, .bool _, .slice _ _ _]) rfl rfl fun b1 => sv (vaS rfl) <| WL.nil <| WX.thenN <| WC.seq <| WC.seq <| WC.draws rfl (by kernel_rfl) <| qv (vmP rfl) <| qv (vnil rfl) <| qv (vfldpz fl54f0 rfl) <| qv (vldc pl3 rfl) <| qv (vmP rfl) <| qv (vnil rfl) <| qv (vfldp fl54f1 rfl) <| qv (vldc pl3 rfl) <| qv (vldac ag28 sz28 rfl rfl (by decide)) <| qcl (Fun.quiet (ref_mailmay (x := x) (m := m) hml)) ct49 rfl <| qv (vnot rfl) <| WQ.nil <| WX.thenN <| ?_
  refine WC.iteb rfl (fun h1 => ?_) (fun h1 => ?_)
  · -- then
    have hno : ¬ mailOk x.id x.n m.ml := by simpa using h1
    rw [show takeS x m.ml = (x, []) from if_neg hno]
    exact WC.seq <| WC.region <| sv (vaS rfl) <| WL.nil <| WX.thenN <| WC.ret <| WX.thenR <| WX.ret1 rfl ((none, 0, [])) (⟨rfl, Nat.le_refl _⟩) rfl (fun w h => no_mailsR (rnode_mk hc hrel (Sb.own (by repeat' (first | with_reducible exact Sb.all | exact Sb.nil | (apply Sb.cons; focus (first | ((repeat (first | with_reducible exact Tk.here | with_reducible apply Tk.there)); done) | ((repeat (first | exact Tk.here | apply Tk.there)); done))) | apply Sb.drop)) h)))
  · -- else
    have hm : mailOk x.id x.n m.ml := by simpa using h1
    have hx2 := RInv.step hx hm
    have hm2 : mailOk (stepS m.ml x).id (stepS m.ml x).n m.ml := by rw [step_id.1, step_id.2]; exact hm
    have ht : takeS x m.ml = _ := if_pos hm
    refine WC.skip <| WX.thenN <| ?_
    refine WC.cutv (ι := Unit) (fun i => []) [(0, .pointer _), (3, _)] (fun i => cel b1 (mv m) 28 :: cel p (rcells (stepS m.ml x) base c V N M) 54 :: row base c 2 39 (cvs (stepS m.ml x).log) :: A) (fun i => True) ⟨rfl, rfl, trivial⟩ ?_ ?_
    · -- up to the join
      refine WC.seq <| WC.draws rfl (by kernel_rfl) <| qv (vfldp fl28f3 rfl) <| qv (vldc pl3 rfl) <| qv (vmP rfl) <| qv (vnil rfl) <| qv (vfldp fl54f2 rfl) <| qv (vfldpz fl24f0 rfl) <| qv (vldc pl3 rfl) <| qv (vgt rfl rfl) <| WQ.nil <| WX.thenN <| ?_
      refine WC.ite rfl (fun h2 => ?_) (fun h2 => ?_)
      · -- then
        exact WC.seq <| WC.region <| sv (vmP rfl) <| sv (vfldp fl28f3 rfl) <| sv (vldc pl3 rfl) <| sv (vnil rfl) <| sv (vfldp fl54f2 rfl) <| sv (vfldpz fl24f0 rfl) <| stp (v := .int _ _) pl3 sz3 rfl rfl rfl <| WL.nil <| WX.thenN <| WC.seq <| WC.region <| sv (vmP rfl) <| sv (vnil rfl) <| sv (vfldp fl54f2 rfl) <| sv (vfldp fl24f1 rfl) <| stp (v := .int _ _) pl3 sz3 rfl rfl rfl <| WL.nil <| WX.thenN <| WC.seq <| WC.region <| sv (vmP rfl) <| sv (vnil rfl) <| sv (vfldp fl54f3 rfl) <| stp (v := .int _ _) pl3 sz3 rfl rfl rfl <| WL.nil <| WX.thenN <| WC.region <| sv (vmP rfl) <| sv (vnil rfl) <| sv (vfldp fl54f4 rfl) <| stp (v := .int _ _) pl3 sz3 rfl rfl rfl <| WL.nil <| WX.mid (()) (trivial) trivial ⟨rfl, rfl, trivial⟩ (fun w h => by unfold stepS; rw [if_pos (by exact h2)]; exact Sb.own (by repeat' (first | with_reducible exact Sb.all | exact Sb.nil | (apply Sb.cons; focus (first | ((repeat (first | with_reducible exact Tk.here | with_reducible apply Tk.there)); done) | ((repeat (first | exact Tk.here | apply Tk.there)); done))) | apply Sb.drop)) h)
      · -- else
        exact WC.skip <| WX.mid (()) (trivial) trivial ⟨rfl, rfl, trivial⟩ (fun w h => by unfold stepS; rw [if_neg (by exact h2)]; exact Sb.own (by repeat' (first | with_reducible exact Sb.all | exact Sb.nil | (apply Sb.cons; focus (first | ((repeat (first | with_reducible exact Tk.here | with_reducible apply Tk.there)); done) | ((repeat (first | exact Tk.here | apply Tk.there)); done))) | apply Sb.drop)) h)
    · -- behind the join
      intro _ _ ρh
      have hrel2 : RelR (stepS m.ml x) V N M := rel_step hrel
      have hc2 : (stepS m.ml x).log.length ≤ c := by unfold stepS; split <;> exact hc
      obtain ⟨y, hy⟩ : ∃ y, stepS m.ml x = y := ⟨_, rfl⟩
      have hko := mail_oth hx hm
      rw [← step_others (m := m.ml)] at hko
      rw [hy] at hx2 hm2 ht hrel2 hc2 hko ⊢
      have hl := hx2.log
      obtain ⟨lst, hlst⟩ : ∃ lst, lst = atT y.log y.log.length := ⟨_, rfl⟩
      refine WC.seq <| WC.seq <| WC.region <| sv (vfldpz fl28f0 rfl) <| sv (vldc pl3 rfl) <| WL.nil <| WX.thenN <| WC.block <| WC.seq <| WC.region <| sv (veq rfl rfl) <| sv (vaB rfl) <| WL.nil <| WX.thenN <| ?_
      refine WC.ite rfl (fun h3 => ?_) (fun h3 => ?_)
      · -- then
        rw [show takeS x m.ml = askedS y m.ml from ht.trans (if_pos h3)]
        refine WC.seq <| WC.region <| sv (vmP rfl) <| sv (vmP rfl) <| clx (by repeat' (first | with_reducible exact Sb.all | exact Sb.nil | (apply Sb.cons; focus (first | ((repeat (first | with_reducible exact Tk.here | with_reducible apply Tk.there)); done) | ((repeat (first | exact Tk.here | apply Tk.there)); done))) | apply Sb.drop)) (ref_last (x := y) (base := base) (c := c) (V := V) (N := N) (M := M)) ct42 rfl fun r14 hr14 => ?_
        refine clx (by repeat' (first | with_reducible exact Sb.all | exact Sb.nil | (apply Sb.cons; focus (first | ((repeat (first | with_reducible exact Tk.here | with_reducible apply Tk.there)); done) | ((repeat (first | exact Tk.here | apply Tk.there)); done))) | apply Sb.drop)) (ref_term (x := y) (base := base) (c := c) (V := V) (N := N) (M := M) hl) ct43 rfl fun r15 hr15 => ?_
        rw [← hlst]
        refine sv (vaI rfl) <| WL.nil <| WX.thenN <| ?_
        refine WC.cutS [(6, .bool (decide (m.term = y.term ∧ (y.vote = 0 ∨ y.vote = m.fr) ∧ y.role = 0 ∧ (lst < m.prev ∨ m.prev = lst ∧ (y.log.length : Int) ≤ m.index))))] [(0, .pointer _), (3, _)] ⟨rfl, rfl, trivial⟩ ?_ fun ρh => ?_
        · -- ref.go:188
          refine WC.draws rfl (by kernel_rfl) <| qv (vfldp fl28f3 rfl) <| qv (vldc pl3 rfl) <| qv (vmP rfl) <| qv (vnil rfl) <| qv (vfldp fl54f2 rfl) <| qv (vfldpz fl24f0 rfl) <| qv (vldc pl3 rfl) <| qvs (veq rfl rfl) (fun q1 => ?_) (fun q1 => ?_)
          ·
            refine qv (vmB rfl) <| qvg rfl (vmP rfl) <| qvg rfl (vnil rfl) <| qvg rfl (vfldp fl54f2 rfl) <| qvg rfl (vfldp fl24f1 rfl) <| qvg rfl (vldc pl3 rfl) <| qvsg rfl (veq rfl rfl) (fun q2 => ?_) (fun q2 => ?_)
            ·
              refine qvg rfl (vmB rfl) <| qng rfl <| qng rfl <| qng rfl <| qng rfl <| qng rfl <| qng rfl <| qng rfl <| qng rfl <| qvg rfl (vpkt rfl) <| qv (vpkt rfl) <| qv (vmB rfl) <| qvg rfl (vmP rfl) <| qvg rfl (vnil rfl) <| qvg rfl (vfldp fl54f3 rfl) <| qvg rfl (vldc pl3 rfl) <| qvsg rfl (veq rfl rfl) (fun q3 => ?_) (fun q3 => ?_)
              ·
                refine qv (vpkt rfl) <| qv (vmB rfl) <| qvg rfl (vfldp fl28f5 rfl) <| qvg rfl (vldc pl3 rfl) <| qvg rfl (vmI rfl) <| qvsg rfl (vgt rfl rfl) (fun q4 => ?_) (fun q4 => ?_)
                ·
                  exact qvg rfl (vmB rfl) <| qng rfl <| qng rfl <| qng rfl <| qng rfl <| qng rfl <| qng rfl <| qng rfl <| qng rfl <| qng rfl <| qng rfl <| qng rfl <| qvg rfl (vpkt rfl) <| qv (vpkt rfl) <| qv (vaB rfl) <| WQ.nil <| WX.mid () trivial ⟨bT (by first | omega | simp_all | grind), trivial⟩ ⟨rfl, rfl, trivial⟩ (fun _ h => Sb.own (by repeat' (first | with_reducible exact Sb.all | exact Sb.nil | (apply Sb.cons; focus (first | ((repeat (first | with_reducible exact Tk.here | with_reducible apply Tk.there)); done) | ((repeat (first | exact Tk.here | apply Tk.there)); done))) | apply Sb.drop)) h)
                ·
                  refine qvg rfl (vmB rfl) <| qvg rfl (vfldp fl28f5 rfl) <| qvg rfl (vldc pl3 rfl) <| qvg rfl (vmI rfl) <| qvsg rfl (veq rfl rfl) (fun q5 => ?_) (fun q5 => ?_)
                  ·
                    exact qvg rfl (vmB rfl) <| qvg rfl (vfldp fl28f4 rfl) <| qvg rfl (vldc pl3 rfl) <| qvg rfl (vmP rfl) <| qclg rfl (Fun.quiet (ref_last (x := y) (base := base) (c := c) (V := V) (N := N) (M := M))) ct42 rfl <| qvg rfl (vge rfl rfl) <| qvg rfl (vpkt rfl) <| qvg rfl (vpkf rfl) <| qv (vpkt rfl) <| qv (vaB rfl) <| WQ.nil <| WX.mid () trivial ⟨bI (by first | omega | simp_all | grind), trivial⟩ ⟨rfl, rfl, trivial⟩ (fun _ h => Sb.own (by repeat' (first | with_reducible exact Sb.all | exact Sb.nil | (apply Sb.cons; focus (first | ((repeat (first | with_reducible exact Tk.here | with_reducible apply Tk.there)); done) | ((repeat (first | exact Tk.here | apply Tk.there)); done))) | apply Sb.drop)) h)
                  ·
                    exact qvg rfl (vmB rfl) <| qng rfl <| qng rfl <| qng rfl <| qng rfl <| qng rfl <| qvg rfl (vpkf rfl) <| qvg rfl (vpkf rfl) <| qv (vpkt rfl) <| qv (vaB rfl) <| WQ.nil <| WX.mid () trivial ⟨bF (by first | omega | simp_all | grind), trivial⟩ ⟨rfl, rfl, trivial⟩ (fun _ h => Sb.own (by repeat' (first | with_reducible exact Sb.all | exact Sb.nil | (apply Sb.cons; focus (first | ((repeat (first | with_reducible exact Tk.here | with_reducible apply Tk.there)); done) | ((repeat (first | exact Tk.here | apply Tk.there)); done))) | apply Sb.drop)) h)
              ·
                exact qv (vpkt rfl) <| qv (vmB rfl) <| qng rfl <| qng rfl <| qng rfl <| qng rfl <| qng rfl <| qng rfl <| qng rfl <| qng rfl <| qng rfl <| qng rfl <| qng rfl <| qng rfl <| qng rfl <| qng rfl <| qng rfl <| qng rfl <| qng rfl <| qv (vpkf rfl) <| qv (vaB rfl) <| WQ.nil <| WX.mid () trivial ⟨bF (by first | omega | simp_all | grind), trivial⟩ ⟨rfl, rfl, trivial⟩ (fun _ h => Sb.own (by repeat' (first | with_reducible exact Sb.all | exact Sb.nil | (apply Sb.cons; focus (first | ((repeat (first | with_reducible exact Tk.here | with_reducible apply Tk.there)); done) | ((repeat (first | exact Tk.here | apply Tk.there)); done))) | apply Sb.drop)) h)
            ·
              refine qvg rfl (vmB rfl) <| qvg rfl (vmP rfl) <| qvg rfl (vnil rfl) <| qvg rfl (vfldp fl54f2 rfl) <| qvg rfl (vfldp fl24f1 rfl) <| qvg rfl (vldc pl3 rfl) <| qvg rfl (vfldp fl28f1 rfl) <| qvg rfl (vldc pl3 rfl) <| qvsg rfl (veq rfl rfl) (fun q6 => ?_) (fun q6 => ?_)
              ·
                refine qvg rfl (vpkf rfl) <| qv (vpkt rfl) <| qv (vmB rfl) <| qvg rfl (vmP rfl) <| qvg rfl (vnil rfl) <| qvg rfl (vfldp fl54f3 rfl) <| qvg rfl (vldc pl3 rfl) <| qvsg rfl (veq rfl rfl) (fun q7 => ?_) (fun q7 => ?_)
                ·
                  refine qv (vpkt rfl) <| qv (vmB rfl) <| qvg rfl (vfldp fl28f5 rfl) <| qvg rfl (vldc pl3 rfl) <| qvg rfl (vmI rfl) <| qvsg rfl (vgt rfl rfl) (fun q8 => ?_) (fun q8 => ?_)
                  ·
                    exact qvg rfl (vmB rfl) <| qng rfl <| qng rfl <| qng rfl <| qng rfl <| qng rfl <| qng rfl <| qng rfl <| qng rfl <| qng rfl <| qng rfl <| qng rfl <| qvg rfl (vpkt rfl) <| qv (vpkt rfl) <| qv (vaB rfl) <| WQ.nil <| WX.mid () trivial ⟨bT (by first | omega | simp_all | grind), trivial⟩ ⟨rfl, rfl, trivial⟩ (fun _ h => Sb.own (by repeat' (first | with_reducible exact Sb.all | exact Sb.nil | (apply Sb.cons; focus (first | ((repeat (first | with_reducible exact Tk.here | with_reducible apply Tk.there)); done) | ((repeat (first | exact Tk.here | apply Tk.there)); done))) | apply Sb.drop)) h)
                  ·
                    refine qvg rfl (vmB rfl) <| qvg rfl (vfldp fl28f5 rfl) <| qvg rfl (vldc pl3 rfl) <| qvg rfl (vmI rfl) <| qvsg rfl (veq rfl rfl) (fun q9 => ?_) (fun q9 => ?_)
                    ·
                      exact qvg rfl (vmB rfl) <| qvg rfl (vfldp fl28f4 rfl) <| qvg rfl (vldc pl3 rfl) <| qvg rfl (vmP rfl) <| qclg rfl (Fun.quiet (ref_last (x := y) (base := base) (c := c) (V := V) (N := N) (M := M))) ct42 rfl <| qvg rfl (vge rfl rfl) <| qvg rfl (vpkt rfl) <| qvg rfl (vpkf rfl) <| qv (vpkt rfl) <| qv (vaB rfl) <| WQ.nil <| WX.mid () trivial ⟨bI (by first | omega | simp_all | grind), trivial⟩ ⟨rfl, rfl, trivial⟩ (fun _ h => Sb.own (by repeat' (first | with_reducible exact Sb.all | exact Sb.nil | (apply Sb.cons; focus (first | ((repeat (first | with_reducible exact Tk.here | with_reducible apply Tk.there)); done) | ((repeat (first | exact Tk.here | apply Tk.there)); done))) | apply Sb.drop)) h)
                    ·
                      exact qvg rfl (vmB rfl) <| qng rfl <| qng rfl <| qng rfl <| qng rfl <| qng rfl <| qvg rfl (vpkf rfl) <| qvg rfl (vpkf rfl) <| qv (vpkt rfl) <| qv (vaB rfl) <| WQ.nil <| WX.mid () trivial ⟨bF (by first | omega | simp_all | grind), trivial⟩ ⟨rfl, rfl, trivial⟩ (fun _ h => Sb.own (by repeat' (first | with_reducible exact Sb.all | exact Sb.nil | (apply Sb.cons; focus (first | ((repeat (first | with_reducible exact Tk.here | with_reducible apply Tk.there)); done) | ((repeat (first | exact Tk.here | apply Tk.there)); done))) | apply Sb.drop)) h)
                ·
                  exact qv (vpkt rfl) <| qv (vmB rfl) <| qng rfl <| qng rfl <| qng rfl <| qng rfl <| qng rfl <| qng rfl <| qng rfl <| qng rfl <| qng rfl <| qng rfl <| qng rfl <| qng rfl <| qng rfl <| qng rfl <| qng rfl <| qng rfl <| qng rfl <| qv (vpkf rfl) <| qv (vaB rfl) <| WQ.nil <| WX.mid () trivial ⟨bF (by first | omega | simp_all | grind), trivial⟩ ⟨rfl, rfl, trivial⟩ (fun _ h => Sb.own (by repeat' (first | with_reducible exact Sb.all | exact Sb.nil | (apply Sb.cons; focus (first | ((repeat (first | with_reducible exact Tk.here | with_reducible apply Tk.there)); done) | ((repeat (first | exact Tk.here | apply Tk.there)); done))) | apply Sb.drop)) h)
              ·
                exact qvg rfl (vpkf rfl) <| qv (vpkt rfl) <| qv (vmB rfl) <| qng rfl <| qng rfl <| qng rfl <| qng rfl <| qng rfl <| qv (vpkf rfl) <| qv (vmB rfl) <| qng rfl <| qng rfl <| qng rfl <| qng rfl <| qng rfl <| qng rfl <| qng rfl <| qng rfl <| qng rfl <| qng rfl <| qng rfl <| qng rfl <| qng rfl <| qng rfl <| qng rfl <| qng rfl <| qng rfl <| qv (vpkf rfl) <| qv (vaB rfl) <| WQ.nil <| WX.mid () trivial ⟨bF (by first | omega | simp_all | grind), trivial⟩ ⟨rfl, rfl, trivial⟩ (fun _ h => Sb.own (by repeat' (first | with_reducible exact Sb.all | exact Sb.nil | (apply Sb.cons; focus (first | ((repeat (first | with_reducible exact Tk.here | with_reducible apply Tk.there)); done) | ((repeat (first | exact Tk.here | apply Tk.there)); done))) | apply Sb.drop)) h)
          ·
            exact qv (vmB rfl) <| qng rfl <| qng rfl <| qng rfl <| qng rfl <| qng rfl <| qng rfl <| qng rfl <| qng rfl <| qng rfl <| qng rfl <| qng rfl <| qng rfl <| qng rfl <| qng rfl <| qng rfl <| qng rfl <| qv (vpkf rfl) <| qv (vmB rfl) <| qng rfl <| qng rfl <| qng rfl <| qng rfl <| qng rfl <| qv (vpkf rfl) <| qv (vmB rfl) <| qng rfl <| qng rfl <| qng rfl <| qng rfl <| qng rfl <| qng rfl <| qng rfl <| qng rfl <| qng rfl <| qng rfl <| qng rfl <| qng rfl <| qng rfl <| qng rfl <| qng rfl <| qng rfl <| qng rfl <| qv (vpkf rfl) <| qv (vaB rfl) <| WQ.nil <| WX.mid () trivial ⟨bF (by first | omega | simp_all | grind), trivial⟩ ⟨rfl, rfl, trivial⟩ (fun _ h => Sb.own (by repeat' (first | with_reducible exact Sb.all | exact Sb.nil | (apply Sb.cons; focus (first | ((repeat (first | with_reducible exact Tk.here | with_reducible apply Tk.there)); done) | ((repeat (first | exact Tk.here | apply Tk.there)); done))) | apply Sb.drop)) h)
        refine WC.seq <| WC.seq <| WC.region <| sv (vmB rfl) <| WL.nil <| WX.thenN <| ?_
        refine WC.ite rfl (fun h4 => ?_) (fun h4 => ?_)
        · -- then
          have hv : voteOk y m.ml := by unfold voteOk; rw [← hlst]; exact h4
          rw [show askedS y m.ml = ({ y with vote := m.fr, waited := 0 }, [(voteH y m true).ml]) by unfold askedS; rw [if_pos hv, decide_eq_true hv]; rfl]
          rw [decide_eq_true h4]
          · -- a
            refine WC.seq <| WC.region <| sv (vmP rfl) <| sv (vfldp fl28f1 rfl) <| sv (vldc pl3 rfl) <| sv (vnil rfl) <| sv (vfldp fl54f2 rfl) <| sv (vfldp fl24f1 rfl) <| stp (v := .int _ _) pl3 sz3 rfl rfl rfl <| WL.nil <| WX.thenN <| WC.region <| sv (vmP rfl) <| sv (vnil rfl) <| sv (vfldp fl54f6 rfl) <| stp (v := .int _ _) pl3 sz3 rfl rfl rfl <| WL.nil <| WX.thenN <| WC.seq <| WC.plan (.bar [0, 1, 2, 3, 4, 5, 6, 7, 8, 9, 10, 11, 12] 13 (.done [14])) rfl (by kernel_rfl) <| WPl.barC <| dv (fun g => (vmP rfl)) <| dv (fun g => (vnil rfl)) <| dv (fun g => (vfldpz fl54f0 rfl)) <| dv (fun g => (vldc pl3 rfl)) <| dv (fun g => (vfldp fl28f1 rfl)) <| dv (fun g => (vldc pl3 rfl)) <| dv (fun g => (vmP rfl)) <| dv (fun g => (vnil rfl)) <| dv (fun g => (vfldp fl54f2 rfl)) <| dv (fun g => (vfldpz fl24f0 rfl)) <| dv (fun g => (vldc pl3 rfl)) <| dv (fun g => (vmB rfl)) <| dv (fun g => (vbd (ps := [(0, (.int .i64 2)), (1, .int _ _), (2, .int _ _), (3, .int _ _), (7, .bool _)]) (cs := [_, _, _, _, _, _, _, _, _]) bt28 zt28 rfl (by rfl))) <| WD.eff rfl <| bslA (v := .agg _) (cs := mv (voteH y m true)) Try.underlying43 zt28 rfl rfl rfl (by decide) (by decide) fun b33 => WL.nil <| WX.brT <| WPl.finC <| dv (fun g => (vaS rfl)) <| WD.nil <| WX.thenN <| WC.ret <| WX.blockR <| WX.thenR <| WX.ret1 rfl ((some ⟨b33, 0, none⟩, 1, [voteH y m true])) (⟨rfl, Nat.le_refl _⟩) rfl (fun w h => ?_)
            have h5 := one_mail0 (h := voteH y m true) rfl (rnode_mk (x := { y with vote := m.fr, waited := 0 }) hc2 (hrel2.same rfl rfl ⟨rfl, rfl⟩ ⟨rfl, rfl⟩) (Own.sp2 (by repeat' (first | exact Spl.nil | (apply Spl.cons; focus (first | ((repeat (first | with_reducible exact Tk.here | with_reducible apply Tk.there)); done) | ((repeat (first | exact Tk.here | apply Tk.there)); done))))) h)).pk1
            exact Sb.own (by repeat' (first | with_reducible exact Sb.all | exact Sb.nil | (apply Sb.cons; focus (first | ((repeat (first | with_reducible exact Tk.here | with_reducible apply Tk.there)); done) | ((repeat (first | exact Tk.here | apply Tk.there)); done))) | apply Sb.drop)) h5
        · -- else
          have hv : ¬ voteOk y m.ml := by unfold voteOk; rw [← hlst]; exact h4
          rw [show askedS y m.ml = (y, [(voteH y m false).ml]) by unfold askedS; rw [if_neg hv, decide_eq_false hv]; rfl]
          rw [decide_eq_false h4]
          · -- b
            refine WC.skip <| WX.thenN <| WC.seq <| WC.plan (.bar [0, 1, 2, 3, 4, 5, 6, 7, 8, 9, 10, 11, 12] 13 (.done [14])) rfl (by kernel_rfl) <| WPl.barC <| dv (fun g => (vmP rfl)) <| dv (fun g => (vnil rfl)) <| dv (fun g => (vfldpz fl54f0 rfl)) <| dv (fun g => (vldc pl3 rfl)) <| dv (fun g => (vfldp fl28f1 rfl)) <| dv (fun g => (vldc pl3 rfl)) <| dv (fun g => (vmP rfl)) <| dv (fun g => (vnil rfl)) <| dv (fun g => (vfldp fl54f2 rfl)) <| dv (fun g => (vfldpz fl24f0 rfl)) <| dv (fun g => (vldc pl3 rfl)) <| dv (fun g => (vmB rfl)) <| dv (fun g => (vbd (ps := [(0, (.int .i64 2)), (1, .int _ _), (2, .int _ _), (3, .int _ _), (7, .bool _)]) (cs := [_, _, _, _, _, _, _, _, _]) bt28 zt28 rfl (by rfl))) <| WD.eff rfl <| bslA (v := .agg _) (cs := mv (voteH y m false)) Try.underlying43 zt28 rfl rfl rfl (by decide) (by decide) fun b33 => WL.nil <| WX.brT <| WPl.finC <| dv (fun g => (vaS rfl)) <| WD.nil <| WX.thenN <| WC.ret <| WX.blockR <| WX.thenR <| WX.ret1 rfl ((some ⟨b33, 0, none⟩, 1, [voteH y m false])) (⟨rfl, Nat.le_refl _⟩) rfl (fun w h => ?_)
            have h5 := one_mail0 (h := voteH y m false) rfl (rnode_mk (x := y) hc2 hrel2 (Own.sp2 (by repeat' (first | exact Spl.nil | (apply Spl.cons; focus (first | ((repeat (first | with_reducible exact Tk.here | with_reducible apply Tk.there)); done) | ((repeat (first | exact Tk.here | apply Tk.there)); done))))) h)).pk1
            exact Sb.own (by repeat' (first | with_reducible exact Sb.all | exact Sb.nil | (apply Sb.cons; focus (first | ((repeat (first | with_reducible exact Tk.here | with_reducible apply Tk.there)); done) | ((repeat (first | exact Tk.here | apply Tk.there)); done))) | apply Sb.drop)) h5
      · -- else
        refine WC.seq <| WC.region <| sv (veq rfl rfl) <| sv (vaB rfl) <| WL.nil <| WX.thenN <| ?_
        refine WC.ite rfl (fun h5 => ?_) (fun h5 => ?_)
        · -- then
          rw [show takeS x m.ml = votesS y m.ml from ht.trans ((if_neg h3).trans (if_pos h5))]
          refine WC.seq <| ?_
          refine WC.cutS [(147, .bool (decide (m.term ≠ y.term ∨ m.ok = false ∨ y.role ≠ 1)))] [(0, .pointer _), (3, _)] ⟨rfl, rfl, trivial⟩ ?_ fun ρh => ?_
          · -- ref.go:195
            refine WC.draws rfl (by kernel_rfl) <| qv (vfldp fl28f3 rfl) <| qv (vldc pl3 rfl) <| qv (vmP rfl) <| qv (vnil rfl) <| qv (vfldp fl54f2 rfl) <| qv (vfldpz fl24f0 rfl) <| qv (vldc pl3 rfl) <| qvs (vne rfl rfl) (fun q10 => ?_) (fun q10 => ?_)
            ·
              exact qv (vmB rfl) <| qng rfl <| qng rfl <| qng rfl <| qv (vpkt rfl) <| qv (vmB rfl) <| qng rfl <| qng rfl <| qng rfl <| qng rfl <| qng rfl <| qv (vpkt rfl) <| WQ.nil <| WX.mid () trivial ⟨bT (by first | omega | simp_all | grind), trivial⟩ ⟨rfl, rfl, trivial⟩ (fun _ h => Sb.own (by repeat' (first | with_reducible exact Sb.all | exact Sb.nil | (apply Sb.cons; focus (first | ((repeat (first | with_reducible exact Tk.here | with_reducible apply Tk.there)); done) | ((repeat (first | exact Tk.here | apply Tk.there)); done))) | apply Sb.drop)) h)
            ·
              refine qv (vmB rfl) <| qvg rfl (vfldp fl28f7 rfl) <| qvbg rfl (vldc pl4 rfl) (fun q11 => ?_) (fun q11 => ?_)
              ·
                exact qvg rfl (vnot rfl) <| qv (vpkf rfl) <| qv (vmB rfl) <| qvg rfl (vmP rfl) <| qvg rfl (vnil rfl) <| qvg rfl (vfldp fl54f3 rfl) <| qvg rfl (vldc pl3 rfl) <| qvg rfl (vne rfl rfl) <| qv (vpkf rfl) <| WQ.nil <| WX.mid () trivial ⟨bI (by first | omega | simp_all | grind), trivial⟩ ⟨rfl, rfl, trivial⟩ (fun _ h => Sb.own (by repeat' (first | with_reducible exact Sb.all | exact Sb.nil | (apply Sb.cons; focus (first | ((repeat (first | with_reducible exact Tk.here | with_reducible apply Tk.there)); done) | ((repeat (first | exact Tk.here | apply Tk.there)); done))) | apply Sb.drop)) h)
              ·
                exact qvg rfl (vnot rfl) <| qv (vpkf rfl) <| qv (vmB rfl) <| qng rfl <| qng rfl <| qng rfl <| qng rfl <| qng rfl <| qv (vpkt rfl) <| WQ.nil <| WX.mid () trivial ⟨bT (by first | omega | simp_all | grind), trivial⟩ ⟨rfl, rfl, trivial⟩ (fun _ h => Sb.own (by repeat' (first | with_reducible exact Sb.all | exact Sb.nil | (apply Sb.cons; focus (first | ((repeat (first | with_reducible exact Tk.here | with_reducible apply Tk.there)); done) | ((repeat (first | exact Tk.here | apply Tk.there)); done))) | apply Sb.drop)) h)
          refine WC.ite rfl (fun h6 => ?_) (fun h6 => ?_)
          · -- then
            rw [show votesS y m.ml = (y, []) from if_pos h6]
            exact WC.seq <| WC.region <| sv (vaS rfl) <| WL.nil <| WX.thenN <| WC.ret <| WX.thenR <| WX.blockR <| WX.thenR <| WX.ret1 rfl ((none, 0, [])) (⟨rfl, Nat.le_refl _⟩) rfl (fun w h => no_mailsR (rnode_mk hc2 hrel2 (Sb.own (by repeat' (first | with_reducible exact Sb.all | exact Sb.nil | (apply Sb.cons; focus (first | ((repeat (first | with_reducible exact Tk.here | with_reducible apply Tk.there)); done) | ((repeat (first | exact Tk.here | apply Tk.there)); done))) | apply Sb.drop)) h)))
          · -- else
            have hr1 : y.role = 1 := by omega
            rw [show votesS y m.ml = leadS (votedS m.fr y) from if_neg h6]
            have hfr : 1 ≤ m.fr ∧ m.fr ≤ y.n := ⟨hm2.1.1, hm2.1.2.1⟩
            have hn := hx2.n
            have hrv : RelR (votedS m.fr y) (updN V m.fr.toNat true) N M := ⟨fun _ k k1 k5 => by
              have h7 := hrel2.voted hr1 k k1 k5
              show updN V m.fr.toNat true k = true ↔ (k : Int) ∈ (if m.fr ∈ y.voted then y.voted else y.voted ++ [m.fr])
              unfold updN
              by_cases he : k = m.fr.toNat
              · rw [if_pos he, show (k : Int) = m.fr by omega]
                split
                · rename_i h8; simp [h8]
                · simp
              · rw [if_neg he, h7]
                have hne : (k : Int) ≠ m.fr := by omega
                split
                · exact Iff.rfl
                · simp [hne], fun h => absurd h (by show ¬ y.role = 2; omega)⟩
            refine WC.skip <| WX.thenN <| WC.seq <| WC.plan (.bar [0, 1, 2, 3, 4, 5] 6 (.done [])) rfl (by kernel_rfl) <| WPl.barC <| dv (fun g => (vmP rfl)) <| dv (fun g => (vfldp fl28f1 rfl)) <| dv (fun g => (vldc pl3 rfl)) <| dv (fun g => (vnil rfl)) <| dv (fun g => (vfldp fl54f7 rfl)) <| dv (fun g => (vixap Try.underlying51 sz4 rfl rfl (by omega) (by omega))) <| WD.eff rfl <| stq (v := .bool true) pl4 sz4 rfl rfl rfl (by show _ < 28; omega) (rc_setV (k := m.fr.toNat) (by omega)) <| WL.nil <| WX.brT <| WPl.finC <| WD.nil <| WX.thenN <| WC.seq <| WC.region <| sv (vmP rfl) <| pm (fun _ h => rnode_mk (x := votedS m.fr y) hc2 hrv (Own.sp2 (by repeat' (first | exact Spl.nil | (apply Spl.cons; focus (first | ((repeat (first | with_reducible exact Tk.here | with_reducible apply Tk.there)); done) | ((repeat (first | exact Tk.here | apply Tk.there)); done))))) h)) <| clx (by repeat' (first | with_reducible exact Sb.all | exact Sb.nil | (apply Sb.cons; focus (first | ((repeat (first | with_reducible exact Tk.here | with_reducible apply Tk.there)); done) | ((repeat (first | exact Tk.here | apply Tk.there)); done))) | apply Sb.drop)) (ref_leads (x := votedS m.fr y) (hx2.votedS hr1 hfr) hr1) ct41 rfl fun r41 hr41 => ?_
            exact sv (vaS rfl) <| WL.nil <| WX.thenN <| WC.ret <| WX.blockR <| WX.thenR <| WX.ret1 rfl (r41) (hr41) rfl (fun _ h => Sb.own (by repeat' (first | with_reducible exact Sb.all | exact Sb.nil | (apply Sb.cons; focus (first | ((repeat (first | with_reducible exact Tk.here | with_reducible apply Tk.there)); done) | ((repeat (first | exact Tk.here | apply Tk.there)); done))) | apply Sb.drop)) h)
        · -- else
          refine WC.seq <| WC.region <| sv (veq rfl rfl) <| sv (vaB rfl) <| WL.nil <| WX.thenN <| ?_
          refine WC.ite rfl (fun h7 => ?_) (fun h7 => ?_)
          · -- then
            rw [show takeS x m.ml = fedS y m.ml from ht.trans ((if_neg h3).trans ((if_neg h5).trans (if_pos h7)))]
            refine WC.seq <| WC.region <| sv (vmP rfl) <| sv (vldac ag28 sz28 rfl rfl (by decide)) <| pm (fun _ h => rnode_mk hc2 hrel2 (Own.sp2 (by repeat' (first | exact Spl.nil | (apply Spl.cons; focus (first | ((repeat (first | with_reducible exact Tk.here | with_reducible apply Tk.there)); done) | ((repeat (first | exact Tk.here | apply Tk.there)); done))))) h)) <| clx (by repeat' (first | with_reducible exact Sb.all | exact Sb.nil | (apply Sb.cons; focus (first | ((repeat (first | with_reducible exact Tk.here | with_reducible apply Tk.there)); done) | ((repeat (first | exact Tk.here | apply Tk.there)); done))) | apply Sb.drop)) (ref_fed hx2 hm2 h7 hcc) ct50 rfl fun r43 hr43 => ?_
            exact sv (vaS rfl) <| WL.nil <| WX.thenN <| WC.ret <| WX.blockR <| WX.thenR <| WX.ret1 rfl (r43) (hr43) rfl (fun _ h => Sb.own (by repeat' (first | with_reducible exact Sb.all | exact Sb.nil | (apply Sb.cons; focus (first | ((repeat (first | with_reducible exact Tk.here | with_reducible apply Tk.there)); done) | ((repeat (first | exact Tk.here | apply Tk.there)); done))) | apply Sb.drop)) h)
          · -- else
            rw [show takeS x m.ml = answeredS y m.ml from ht.trans ((if_neg h3).trans ((if_neg h5).trans (if_neg h7)))]
            refine WC.skip <| WX.blockN <| WX.thenN <| WC.seq <| WC.region <| sv (vmP rfl) <| sv (vldac ag28 sz28 rfl rfl (by decide)) <| pm (fun _ h => rnode_mk hc2 hrel2 (Own.sp2 (by repeat' (first | exact Spl.nil | (apply Spl.cons; focus (first | ((repeat (first | with_reducible exact Tk.here | with_reducible apply Tk.there)); done) | ((repeat (first | exact Tk.here | apply Tk.there)); done))))) h)) <| clx (by repeat' (first | with_reducible exact Sb.all | exact Sb.nil | (apply Sb.cons; focus (first | ((repeat (first | with_reducible exact Tk.here | with_reducible apply Tk.there)); done) | ((repeat (first | exact Tk.here | apply Tk.there)); done))) | apply Sb.drop)) (ref_answer hx2 hko hm2.1.2.2.2.2.2.2.1) ct51 rfl fun r45 hr45 => ?_
            exact sv (vaS rfl) <| WL.nil <| WX.thenN <| WC.ret <| WX.ret1 rfl (r45) (hr45) rfl (fun _ h => Sb.own (by repeat' (first | with_reducible exact Sb.all | exact Sb.nil | (apply Sb.cons; focus (first | ((repeat (first | with_reducible exact Tk.here | with_reducible apply Tk.there)); done) | ((repeat (first | exact Tk.here | apply Tk.there)); done))) | apply Sb.drop)) h)
end Go.Proofs.Ytekoilhjlofncaa
