/-
  Layer 19: cells are taken.
-/
import Derived.Test.YtekoilhjlofncaaRaftMore
set_option linter.unusedVariables false
set_option linter.unusedSimpArgs false
set_option maxRecDepth 4000
namespace Go.Proofs.Ytekoilhjlofncaa
open Go.Sl Go.RowKit Go.Raft

theorem raft_clip {w0 : World} {A : List HProp} {base : Option Addr} {k c : Nat} (h : k ≤ c) :
    Fun Try.prog w0 63 [.slice base k c] A (Ret w0 (fun _ : Unit => True) (fun _ => .slice base k k) (fun _ => A)) := by
  refine Fun.enter Try.func63 rfl Try.ntmps63 rfl ?_
  exact WC.seq <| WC.region <| sv (vaS rfl) <| WL.nil <| WX.thenN <| WC.seq <| WC.region <| sv (vmS rfl) <| sv (vmS rfl) <| sv (vlen Try.underlying22 rfl) <| sv (vmS rfl) <| sv (vlen Try.underlying22 rfl) <| sv (vslHM Try.underlying22 sz39 rfl rfl rfl (by omega) (by omega) (by omega)) <| sv (vaS rfl) <| WL.nil <| WX.thenN <| WC.ret <| WX.ret1 rfl (()) (trivial) rfl (fun _ h => h)
abbrev replyH (x : Rn) (k : Int) (ok : Bool) (i : Int) : Mh := ⟨4, x.id, k, x.term, i, 0, 0, ok, ⟨none, [], 0⟩⟩
theorem replyH_ml (x : Rn) (k : Int) (ok : Bool) (i : Int) : [(replyH x k ok i).ml] = reply x k ok i := rfl
def fedR (x : Rn) (k : Int) : Rn := { x with role := 0, leader := k, waited := 0 }
theorem mergeS_step {log : List Cl} {commit p : Int} {l : List Cl} {i : Nat} {c : Cl} (h : l[i]? = some c) (he : atT log (p + 1) = c.term) : mergeS log commit p (l.drop i) = mergeS log commit (p + 1) (l.drop (i + 1)) := by
  have hi := (List.getElem?_eq_some_iff.1 h).1
  rw [List.drop_eq_getElem_cons hi, (List.getElem?_eq_some_iff.1 h).2, mergeS, if_pos he]
theorem mergeS_none {log : List Cl} {commit p : Int} {l : List Cl} {i : Nat} {c : Cl} (h : l[i]? = some c) (he : atT log (p + 1) ≠ c.term) (hc : p + 1 ≤ commit) : mergeS log commit p (l.drop i) = none := by
  have hi := (List.getElem?_eq_some_iff.1 h).1
  rw [List.drop_eq_getElem_cons hi, (List.getElem?_eq_some_iff.1 h).2, mergeS, if_neg he, if_pos hc]
theorem mergeS_new {log : List Cl} {commit p : Int} {l : List Cl} {i : Nat} {c : Cl} (h : l[i]? = some c) (he : atT log (p + 1) ≠ c.term) (hc : ¬ p + 1 ≤ commit) : mergeS log commit p (l.drop i) = some (log.take p.toNat ++ l.drop i) := by
  have hi := (List.getElem?_eq_some_iff.1 h).1
  have e : l.drop i = c :: l.drop (i + 1) := by rw [List.drop_eq_getElem_cons hi, (List.getElem?_eq_some_iff.1 h).2]
  rw [e, mergeS, if_neg he, if_neg hc]
structure FI where
  log : List Cl
  base : Option Addr
  c : Nat
theorem fed_old {x : Rn} {m : Ml} (h : m.term < x.term) : fedS x m = (x, reply x m.fr false x.log.length) := if_pos h
theorem fed_lead {x : Rn} {m : Ml} (h : ¬ m.term < x.term) (h2 : x.role = 2) : fedS x m = (x, []) := by unfold fedS; rw [if_neg h, if_pos h2]
theorem fed_gap {x : Rn} {m : Ml} (h : ¬ m.term < x.term) (h2 : ¬ x.role = 2) (h3 : (x.log.length : Int) < m.index ∨ atT x.log m.index ≠ m.prev) : fedS x m = (fedR x m.fr, reply x m.fr false (min (x.log.length : Int) (m.index - 1))) := by unfold fedS; rw [if_neg h, if_neg h2, if_pos h3]; rfl
theorem fed_none {x : Rn} {m : Ml} (h : ¬ m.term < x.term) (h2 : ¬ x.role = 2) (h3 : ¬ ((x.log.length : Int) < m.index ∨ atT x.log m.index ≠ m.prev)) (h4 : mergeS x.log x.commit m.index m.cells = none) : fedS x m = (fedR x m.fr, []) := by unfold fedS; rw [if_neg h, if_neg h2, if_neg h3, h4]; rfl
theorem fed_some {x : Rn} {m : Ml} {log : List Cl} (h : ¬ m.term < x.term) (h2 : ¬ x.role = 2) (h3 : ¬ ((x.log.length : Int) < m.index ∨ atT x.log m.index ≠ m.prev)) (h4 : mergeS x.log x.commit m.index m.cells = some log) :
    fedS x m = ({ fedR x m.fr with log := log, commit := max x.commit (min m.commit (m.index + m.cells.length)) }, reply x m.fr true (m.index + m.cells.length)) := by unfold fedS; rw [if_neg h, if_neg h2, if_neg h3, h4]; rfl
theorem fed_fix {w0 w : World} {A : List HProp} {p c n : Nat} {base : Option Addr} {vv pv : Value} {vs : List Value} {y : Rn} (hn : n = y.log.length) (hv : vs = cvs y.log) (H : Own w0 (cel p [.int .i64 y.id, .int .i64 y.n, .int .i64 y.term, .int .i64 y.vote, .slice base n c, .int .i64 y.role, .int .i64 y.leader, .int .i64 y.commit, .int .i64 y.waited, .int .i64 y.since, vv, pv] 76 :: row base c 2 39 vs :: A) w) :
    Own w0 (cel p (ncells y base c vv pv) 76 :: row base c 2 39 (cvs y.log) :: A) w := by
  subst hn; subst hv
  exact H
theorem raft_fed {w0 : World} {A : List HProp} {p : Nat} {x : Rn} {m : Mh} (hx : RInv x) (hm : mailOk x.id x.n m.ml) (hk : m.kind = 3) (hcc : m.cs.xs.length ≤ m.cs.cap) [hR : Reads w0 A m.cs.base (cvs m.cs.xs)] :
    Fun Try.prog w0 47 [.pointer (some ⟨p, 0, none⟩), .agg (mv m).toArray] (hnode p x :: A) (MR w0 p A (fedS x m.ml)) := by
  refine Fun.ex (fun w h => hnode_open h) ?_
  rintro ⟨base, c, vv, pv⟩ hc
  dsimp only at hc ⊢
  have hl := hx.log
  have hcm := hx.commit
  obtain ⟨⟨m1, m2, m3, m4, m5, m6, m7, m8⟩, hrest⟩ := hm
  obtain ⟨hp0, hp1, hp2, hcs⟩ : 0 ≤ m.prev ∧ m.prev ≤ m.term ∧ (m.prev = 0 ↔ m.index = 0) ∧ (0 ≤ m.commit ∧ m.commit ≤ 10000 ∧ m.cs.xs.length ≤ 8 ∧ m.index + (m.cs.xs.length : Int) ≤ 10000 ∧ rises m.cs.xs m.prev m.term = true) := by
    rcases hrest with h | h | ⟨_, a, b, c, d⟩
    · exact absurd h (by show ¬ m.kind = 2; omega)
    · exact absurd h (by show ¬ m.kind = 4; omega)
    · exact ⟨a, b, c, d hk⟩
  replace m7 : 0 ≤ m.index := m7
  replace m8 : m.index ≤ 10000 := m8
  unfold MR
  refine Fun.enter Try.func47 rfl Try.ntmps47 rfl ?_
  refine WC.seq <| WC.region <| bxc (v := .agg _) (cs := [.int _ _, .int _ _, .int _ _, .int _ _, .int _ _, .int _ _, .int _ _, .bool _, .slice _ _ _]) rfl rfl fun b1 => sv (vaS rfl) <| WL.nil <| WX.thenN <| WC.seq <| WC.region <| sv (vmP rfl) <| sv (vfld fl28f1 rfl) <| sv (vldc pl3 rfl) <| cl (raft_mail (x := x) (base := base) (c := c) (vv := vv) (pv := pv)) ct38 rfl fun _ _ => alz (cs := [.int .i64 0, .int .i64 0, .int .i64 0, .int .i64 0, .int .i64 0, .int .i64 0, .int .i64 0, .bool false, .slice none 0 0]) zt28 (by rfl) fun b4 => stA sz28 rfl rfl rfl rfl (hone) <| WL.nil <| WX.thenN <| WC.seq <| WC.block <| WC.seq <| WC.draws rfl (by kernel_rfl) <| qv (vfld fl28f3 rfl) <| qv (vldc pl3 rfl) <| qv (vmP rfl) <| qv (vnil rfl) <| qv (vfld fl76f2 rfl) <| qv (vldc pl3 rfl) <| qv (vlt rfl rfl) <| qv (vaB rfl) <| WQ.nil <| WX.thenN <| ?_
  refine WC.ite rfl (fun h1 => ?_) (fun h1 => ?_)
  · -- then
    rw [fed_old (m := m.ml) h1]
    · -- a
      exact WC.seq <| WC.region <| sv (vmP rfl) <| sv (vnil rfl) <| sv (vfld fl76f4 rfl) <| sv (vldc pl22 rfl) <| sv (vlen Try.underlying22 rfl) <| sv (vfld fl28f4 rfl) <| stc (v := .int _ _) pl3 sz3 rfl rfl rfl <| WL.nil <| WX.thenN <| WC.seq <| WC.region <| sv (vldac ag28 sz28 rfl rfl (by decide)) <| bslA (v := .agg _) (cs := mv (replyH x m.fr false x.log.length)) Try.underlying43 zt28 rfl rfl rfl (by decide) (by decide) fun b11 =>sv (vaS rfl) <| WL.nil <| WX.thenN <| WC.ret <| WX.blockR <| WX.thenR <| WX.ret1 rfl ((some ⟨b11, 0, none⟩, 1, [replyH x m.fr false x.log.length])) (⟨rfl, Nat.le_refl _⟩) rfl (fun w h => ((hnode_mk hc ((one_mail0 rfl h).ix [4, 5, 6, 0, 1, 2, 3])).ix [3, 4, 1, 2, 0]).tail.tail)
  · -- else
    refine WC.seq <| WC.region <| sv (vmP rfl) <| sv (vnil rfl) <| sv (vfld fl76f5 rfl) <| sv (vldc pl3 rfl) <| sv (veq rfl rfl) <| sv (vaB rfl) <| WL.nil <| WX.thenN <| ?_
    refine WC.ite rfl (fun h2 => ?_) (fun h2 => ?_)
    · -- then
      rw [fed_lead (m := m.ml) h1 h2]
      exact WC.seq <| WC.region <| sv (vaS rfl) <| WL.nil <| WX.thenN <| WC.ret <| WX.blockR <| WX.thenR <| WX.ret1 rfl ((none, 0, [])) (⟨rfl, Nat.le_refl _⟩) rfl (fun w h => no_mails (hnode_mk hc h.tail.tail))
    · -- else
      refine WC.perm (A' := cel p (ncells x base c vv pv) 76 :: cel b4 (mv (replyH x m.fr false 0)) 28 :: cel b1 (mv m) 28 :: row base c 2 39 (cvs x.log) :: A) ?_ (fun _ h => (h.ix [4, 2, 0, 1, 3]).tail)
      refine WC.skip <| WX.blockN <| WX.thenN <| WC.seq <| WC.plan (.pre [0, 5, 6] (.one [1, 2, 3, 4] 7 (.pre [8, 9] (.one [] 10 (.bar [11, 12] 13 (.done [])))))) rfl (by kernel_rfl) <| WPl.pre (trivial) <| dv (fun g => (vmP rfl)) <| dv (fun g => (vnil rfl)) <| dv (fun g => (vfld fl76f5 rfl)) <| WD.nil <| WPl.one (fun g => g ++ cel b4 (mv (replyH x m.fr false 0)) 28 :: cel b1 (mv m) 28 :: row base c 2 39 (cvs x.log) :: A) ([_]) (fun _ => trivial) (rfl) <| dv (fun g => (vmP rfl)) <| dv (fun g => (vmP rfl)) <| dv (fun g => (vfld fl28f1 rfl)) <| dv (fun g => (vldc pl3 rfl)) <| WD.eff rfl <| stc (v := .int _ _) pl3 sz3 rfl rfl rfl <| WL.nil <| WX.br <| WPl.pre (⟨[_], rfl⟩) <| dv (fun g => (vnil rfl)) <| dv (fun g => (vfld fl76f6 rfl)) <| WD.nil <| WPl.one (fun g => g ++ cel b4 (mv (replyH x m.fr false 0)) 28 :: cel b1 (mv m) 28 :: row base c 2 39 (cvs x.log) :: A) ([_]) (fun g => good_same _ g) (rfl) <| WD.eff rfl <| stc (v := .int _ _) pl3 sz3 rfl rfl rfl <| WL.nil <| WX.br <| WPl.bar (⟨[_], rfl⟩) <| dv (fun g => (vnil rfl)) <| dv (fun g => (vfld fl76f8 rfl)) <| WD.eff rfl <| stc (v := .int _ _) pl3 sz3 rfl rfl rfl <| WL.nil <| WX.brT <| WPl.fin (trivial) <| WD.nil <| WX.thenN <| WC.seq <| ?_
      refine WC.cut0 [(62, .bool (decide ((x.log.length : Int) < m.index ∨ atT x.log m.index ≠ m.prev)))] [(0, .pointer _), (3, _), (5, _)] (cel p (ncells (fedR x m.fr) base c vv pv) 76 :: cel b4 (mv (replyH x m.fr false 0)) 28 :: cel b1 (mv m) 28 :: row base c 2 39 (cvs x.log) :: A) ⟨rfl, rfl, rfl, trivial⟩ ?_ fun ρh => ?_
      · -- raft.go:210
        refine WC.draws rfl (by kernel_rfl) <| qv (vfld fl28f4 rfl) <| qv (vldc pl3 rfl) <| qv (vmP rfl) <| qv (vnil rfl) <| qv (vfld fl76f4 rfl) <| qv (vldc pl22 rfl) <| qv (vlen Try.underlying22 rfl) <| qvs (vgt rfl rfl) (fun q1 => ?_) (fun q1 => ?_)
        ·
          exact qv (vmB rfl) <| qng rfl <| qng rfl <| qng rfl <| qng rfl <| qng rfl <| qng rfl <| qng rfl <| qv (vpkt rfl) <| WQ.nil <| WX.mid () trivial ⟨bT (by first | omega | (show atT x.log m.index ≠ m.prev ↔ _; omega) | grind), trivial⟩ ⟨rfl, rfl, rfl, trivial⟩ (fun _ h => h)
        ·
          exact qv (vmB rfl) <| qvg rfl (vmP rfl) <| qvg rfl (vfld fl28f4 rfl) <| qvg rfl (vldc pl3 rfl) <| qclg rfl (Fun.quiet (raft_at (x := fedR x m.fr) (base := base) (c := c) (vv := vv) (pv := pv) hl)) ct39 rfl <| qvg rfl (vfld fl28f5 rfl) <| qvg rfl (vldc pl3 rfl) <| qvg rfl (vne rfl rfl) <| qv (vpkf rfl) <| WQ.nil <| WX.mid () trivial ⟨bI (by first | omega | (show atT x.log m.index ≠ m.prev ↔ _; omega) | grind), trivial⟩ ⟨rfl, rfl, rfl, trivial⟩ (fun _ h => h)
      refine WC.ite rfl (fun h3 => ?_) (fun h3 => ?_)
      · -- then
        rw [fed_gap (m := m.ml) h1 h2 h3]
        · -- b
          exact WC.seq <| WC.plan (.bar [0, 1, 2, 3, 4, 5, 6, 7, 8, 9] 10 (.done [])) rfl (by kernel_rfl) <| WPl.bar (trivial) <| dv (fun g => (vmP rfl)) <| dv (fun g => (vnil rfl)) <| dv (fun g => (vfld fl76f4 rfl)) <| dv (fun g => (vldc pl22 rfl)) <| dv (fun g => (vlen Try.underlying22 rfl)) <| dv (fun g => (vfld fl28f4 rfl)) <| dv (fun g => (vldc pl3 rfl)) <| dv (fun g => (vsub rfl rfl (by omega))) <| dv (fun g => (vmin rfl rfl)) <| dv (fun g => (vfld fl28f4 rfl)) <| WD.eff rfl <| pm (fun _ h => h.pk1) <| stc (v := .int _ _) pl3 sz3 rfl rfl rfl <| WL.nil <| WX.brT <| WPl.fin (trivial) <| WD.nil <| WX.thenN <| WC.seq <| WC.region <| sv (vldac ag28 sz28 rfl rfl (by decide)) <| bslA (v := .agg _) (cs := mv (replyH x m.fr false (min (x.log.length : Int) (m.index - 1)))) Try.underlying43 zt28 rfl rfl rfl (by decide) (by decide) fun b28 =>sv (vaS rfl) <| WL.nil <| WX.thenN <| WC.ret <| WX.thenR <| WX.ret1 rfl ((some ⟨b28, 0, none⟩, 1, [replyH x m.fr false (min (x.log.length : Int) (m.index - 1))])) (⟨rfl, Nat.le_refl _⟩) rfl (fun w h => ((hnode_mk0 (x := fedR x m.fr) (by show ¬ (0 : Int) = 1; decide) (by show ¬ (0 : Int) = 2; decide) hc ((one_mail0 rfl h).ix [3, 5, 0, 1, 2, 4])).ix [3, 4, 1, 2, 0]).tail.tail)
      · -- else
        refine WC.skip <| WX.thenN <| ?_
        refine WC.cutv (ι := FI) (fun i => []) [(0, .pointer _), (3, _), (5, _)] (fun i => cel p (ncells { fedR x m.fr with log := i.log } i.base i.c vv pv) 76 :: cel b4 (mv (replyH x m.fr false 0)) 28 :: cel b1 (mv m) 28 :: row i.base i.c 2 39 (cvs i.log) :: A) (fun i => mergeS x.log x.commit m.index m.cs.xs = some i.log ∧ i.log.length ≤ i.c) ⟨rfl, rfl, rfl, trivial⟩ ?_ ?_
        · -- up to the join
          refine WC.seq <| WC.region <| sv (vfld fl28f8 rfl) <| sv (vldc pl22 rfl) <| sv (vlen Try.underlying22 rfl) <| sv (vmI rfl) <| WL.nil <| WX.thenN <| WC.block <| ?_
          refine WC.loop (ι := Nat) (fun i => [(78, .int .i64 i)]) [(0, .pointer _), (3, _), (5, _), (76, .slice _ _ _), (77, .int _ _)] (fun i => cel p (ncells (fedR x m.fr) base c vv pv) 76 :: cel b4 (mv (replyH x m.fr false 0)) 28 :: cel b1 (mv m) 28 :: row base c 2 39 (cvs x.log) :: A) (fun i => i ≤ m.cs.xs.length ∧ m.index + (i : Int) ≤ (x.log.length : Int) ∧ mergeS x.log x.commit m.index m.cs.xs = mergeS x.log x.commit (m.index + (i : Int)) (m.cs.xs.drop i)) (fun i => m.cs.xs.length - i) (0) (⟨by omega, by omega, by simp⟩) ⟨rfl, trivial⟩ ⟨rfl, rfl, rfl, rfl, rfl, trivial⟩ (fun _ h => h) ?_
          intro i ⟨hi1, hi2, hi3⟩ ρh
          refine WC.seq <| WC.region <| sv (vlt rfl rfl) <| WL.nil <| WX.thenN <| WC.seq <| ?_
          refine WC.ite rfl (fun h4 => ?_) (fun h4 => ?_)
          · -- then
            have hil : i < m.cs.xs.length := by omega
            obtain ⟨d, hd⟩ : ∃ d, m.cs.xs[i]? = some d := ⟨_, List.getElem?_eq_getElem hil⟩
            have hlc := cvs_length m.cs.xs
            have hpos : 0 < (cvs m.cs.xs).length := by omega
            have hag : ((cvs m.cs.xs).drop (((i : Int)).toNat * 2)).take 2 = [.int .i64 d.term, .string d.data] := by rw [Int.toNat_natCast]; exact cvs_take2 hd
            have hone : ∀ v ∈ [Value.int .i64 d.term, .string d.data], v.oneCell' = true := cone
            have hdt := (rises_mem hcs.2.2.2.2 d (List.mem_of_getElem? hd)).1
            have epl : m.index + 1 + (i : Int) = (m.index + (i : Int)) + 1 := by omega
            refine WC.known (fun w h => rsome (base := m.cs.base) hpos reads h) fun hb => ?_
            refine WC.skip <| WX.thenN <| WC.seq <| WC.block <| WC.seq <| WC.region <| sv (vmI rfl) <| sv (vix Try.underlying22 sz39 rfl rfl (by omega) (by omega) reads (hpos)) <| sv (vlda ag39 sz39 rfl reads (hag) rfl (by decide)) <| alz (cs := [.int .i64 0, .string ByteArray.empty]) zt39 (by rfl) fun b32 => sv (vaI rfl) <| stA sz39 rfl rfl rfl rfl (hone) <| WL.nil <| WX.thenN <| WC.seq <| WC.region <| sv (vfld fl28f4 rfl) <| sv (vldc pl3 rfl) <| sv (vadd rfl rfl (by omega)) <| sv (vmI rfl) <| sv (vadd rfl rfl (by omega)) <| sv (vaI rfl) <| WL.nil <| WX.thenN <| WC.seq <| WC.seq <| WC.draws rfl (by kernel_rfl) <| qv (vmP rfl) <| qv (vmI rfl) <| qcl (Fun.quiet (raft_at (x := fedR x m.fr) (base := base) (c := c) (vv := vv) (pv := pv) hl)) ct39 rfl <| qv (vfld fl39f0 rfl) <| qv (vldc pl3 rfl) <| qv (veq rfl rfl) <| WQ.nil <| WX.thenN <| ?_
            refine WC.ite rfl (fun h5 => ?_) (fun h5 => ?_)
            · -- then
              exact WC.exit <| WX.thenE <| WX.blockH <| WX.thenN <| WC.region <| sv (vadd rfl rfl (by omega)) <| sv (vmI rfl) <| WL.nil <| WX.again (i + 1) (⟨by omega, by have h6 : atT x.log (m.index + 1 + (i : Int)) = d.term := h5; by_cases hle : m.index + 1 + (i : Int) ≤ x.log.length; omega; rw [atT_zero (.inr (by omega))] at h6; omega, by rw [hi3, mergeS_step hd (by rw [← epl]; exact h5)]; congr 1; omega⟩) (by omega) ⟨rfl, trivial⟩ ⟨rfl, rfl, rfl, rfl, rfl, trivial⟩ (fun _ h => h.tail)
            · -- else
              have hne : atT x.log (m.index + (i : Int) + 1) ≠ d.term := by rw [← epl]; exact h5
              refine WC.skip <| WX.thenN <| WC.seq <| WC.seq <| WC.region <| sv (vmI rfl) <| sv (vmP rfl) <| sv (vnil rfl) <| sv (vfld fl76f7 rfl) <| sv (vldc pl3 rfl) <| sv (vle rfl rfl) <| WL.nil <| WX.thenN <| ?_
              refine WC.ite rfl (fun h6 => ?_) (fun h6 => ?_)
              · -- then
                have hle : m.index + (i : Int) + 1 ≤ x.commit := by rw [← epl]; exact h6
                rw [fed_none (m := m.ml) h1 h2 h3 (hi3.trans (mergeS_none hd hne hle))]
                exact WC.seq <| WC.region <| sv (vaS rfl) <| WL.nil <| WX.thenN <| WC.ret <| WX.thenR <| WX.blockR <| WX.thenR <| WX.thenR <| WX.blockR <| WX.thenR <| WX.ret1 rfl ((none, 0, [])) (⟨rfl, Nat.le_refl _⟩) rfl (fun w h => no_mails (((hnode_mk0 (x := fedR x m.fr) (by show ¬ (0 : Int) = 1; decide) (by show ¬ (0 : Int) = 2; decide) hc (h.ix [1, 4, 0, 2, 3])).ix [1, 2, 3, 0]).tail.tail.tail))
              · -- else
                have hgt : ¬ m.index + (i : Int) + 1 ≤ x.commit := by rw [← epl]; exact h6
                obtain ⟨k0, hk0⟩ : ∃ k0 : Nat, m.index = (k0 : Int) := ⟨m.index.toNat, by omega⟩
                have hkk : m.index + (i : Int) = ((k0 + i : Nat) : Int) := by omega
                have hkl : k0 + i ≤ x.log.length := by omega
                have hnew := hi3.trans (mergeS_new hd hne hgt)
                rw [hkk, Int.toNat_natCast] at hnew
                have hlc2 := cvs_length x.log
                have hrd : ∀ {B : List HProp} [Reads w0 B m.cs.base (cvs m.cs.xs)], RdC w0 B (slB m.cs.base ((i : Int)).toNat m.cs.cap 2) (cvs (m.cs.xs.drop i)) := fun {B} _ => by
                  have := (reads (w0 := w0) (A := B) (base := m.cs.base) (vs := cvs m.cs.xs)).slice i m.cs.cap 2 ((m.cs.xs.drop i).length * 2) (fun h => by rw [List.length_drop]; omega)
                  rw [cvs_drop, cvs_take, List.take_length] at this
                  simpa using this
                refine WC.perm (A' := row base c 2 39 (cvs x.log) :: cel p (ncells (fedR x m.fr) base c vv pv) 76 :: cel b4 (mv (replyH x m.fr false 0)) 28 :: cel b1 (mv m) 28 :: A) ?_ (fun _ h => (h.ix [0, 4, 1, 2, 3]).tail)
                exact WC.skip <| WX.thenN <| WC.seq <| WC.plan (.pre [1, 2, 3, 4, 5, 6, 7, 8, 9, 10, 11, 12] (.one [0] 13 (.bar [14, 15] 16 (.done [])))) rfl (by kernel_rfl) <| WPl.pre (trivial) <| dv (fun g => (vmP rfl)) <| dv (fun g => (vnil rfl)) <| dv (fun g => (vfld fl76f4 rfl)) <| dv (fun g => (vldc pl22 rfl)) <| dv (fun g => (vmI rfl)) <| dv (fun g => (vw (v' := .int .i64 ((k0 + i : Nat) : Int)) (vsub rfl rfl (by omega)) (iv (by omega)))) <| dv (fun g => (vslH Try.underlying22 sz39 rfl rfl (by omega) (by omega))) <| dcl (fun g => Fun.quiet (raft_clip (by rw [Int.toNat_natCast]; omega))) ct63 rfl <| dv (fun g => (vfld fl28f8 rfl)) <| dv (fun g => (vldc pl22 rfl)) <| dv (fun g => (vmI rfl)) <| dv (fun g => (vslL Try.underlying22 sz39 rfl rfl (by omega) (by omega))) <| WD.nil <| WPl.one (fun g => g ++ cel p (ncells (fedR x m.fr) base c vv pv) 76 :: cel b4 (mv (replyH x m.fr false 0)) 28 :: cel b1 (mv m) 28 :: A) ([_]) (fun _ => trivial) (rfl) <| dv (fun g => (vmP rfl)) <| WD.eff rfl <| pm (fun _ h => Own.row_cut (k := k0 + i) (by omega) (by omega) h) <| ap (vs := (cvs x.log).take ((k0 + i) * 2)) (news := cvs (m.cs.xs.drop i)) rfl Try.underlying22 zt39 rfl rfl rfl (by rw [List.length_take, hlc2, Int.toNat_natCast]; omega) (by rw [cvs_length, List.length_drop, Int.toNat_natCast]) (cvs_one _) hrd (by simp only [maxLen]; omega) (by omega) fun base46 c46 hc46 =>WL.nil <| WX.br <| WPl.bar (⟨[_], rfl⟩) <| dv (fun g => (vnil rfl)) <| dv (fun g => (vfld fl76f4 rfl)) <| WD.eff rfl <| pm (fun _ h => h.pk1) <| stc (v := .slice _ _ _) pl22 sz22 rfl rfl rfl <| WL.nil <| WX.brT <| WPl.fin (trivial) <| WD.nil <| WX.thenN <| WC.exit <| WX.blockE rfl <| WX.thenE <| WX.thenE <| WX.blockH <| WX.mid (⟨x.log.take (k0 + i) ++ m.cs.xs.drop i, base46, c46⟩) (⟨hnew, by show (x.log.take (k0 + i) ++ m.cs.xs.drop i).length ≤ c46; rw [List.length_append, List.length_take, List.length_drop]; rw [Int.toNat_natCast, Int.toNat_natCast] at hc46; omega⟩) trivial ⟨rfl, rfl, rfl, trivial⟩ (fun w h => (fed_fix (y := { fedR x m.fr with log := x.log.take (k0 + i) ++ m.cs.xs.drop i }) (by show _ = (x.log.take (k0 + i) ++ m.cs.xs.drop i).length; rw [List.length_append, List.length_take, List.length_drop, Int.toNat_natCast, Int.toNat_natCast]; omega) (by show _ = cvs (x.log.take (k0 + i) ++ m.cs.xs.drop i); rw [cvs_append, cvs_take]) h).ix [0, 2, 3, 1])
          · -- else
            exact WC.exit <| WX.thenE <| WX.thenE <| WX.blockH <| WX.mid (⟨x.log, base, c⟩) (⟨by rw [hi3, List.drop_eq_nil_of_le (by omega)]; rfl, hc⟩) trivial ⟨rfl, rfl, rfl, trivial⟩ (fun _ h => h)
        · -- behind the join
          rintro ⟨log', base', c'⟩ ⟨g1, g2⟩ ρh
          dsimp only at g1 g2 ⊢
          rw [fed_some (m := m.ml) h1 h2 h3 g1]
          refine WC.perm (A' := cel b4 (mv (replyH x m.fr false 0)) 28 :: cel p (ncells { fedR x m.fr with log := log' } base' c' vv pv) 76 :: cel b1 (mv m) 28 :: row base' c' 2 39 (cvs log') :: A) ?_ (fun _ h => h.pk1)
          exact WC.seq <| WC.plan (.pre [6] (.one [0, 1, 2, 3, 4, 5] 7 (.bar [8] 9 (.done [])))) rfl (by kernel_rfl) <| WPl.pre (trivial) <| dv (fun g => (vfld fl28f7 rfl)) <| WD.nil <| WPl.one (fun g => g ++ cel p (ncells { fedR x m.fr with log := log' } base' c' vv pv) 76 :: cel b1 (mv m) 28 :: row base' c' 2 39 (cvs log') :: A) ([_]) (fun _ => trivial) (rfl) <| dv (fun g => (vfld fl28f4 rfl)) <| dv (fun g => (vldc pl3 rfl)) <| dv (fun g => (vfld fl28f8 rfl)) <| dv (fun g => (vldc pl22 rfl)) <| dv (fun g => (vlen Try.underlying22 rfl)) <| dv (fun g => (vadd rfl rfl (by omega))) <| WD.eff rfl <| stc (v := .bool _) pl4 sz4 rfl rfl rfl <| WL.nil <| WX.br <| WPl.bar (⟨[_], rfl⟩) <| dv (fun g => (vfld fl28f4 rfl)) <| WD.eff rfl <| stc (v := .int _ _) pl3 sz3 rfl rfl rfl <| WL.nil <| WX.brT <| WPl.fin (trivial) <| WD.nil <| WX.thenN <| WC.seq <| WC.plan (.bar [0, 1, 2, 3, 4, 5, 6, 7, 8, 9, 10, 11, 12] 13 (.done [])) rfl (by kernel_rfl) <| WPl.bar (trivial) <| dv (fun g => (vmP rfl)) <| dv (fun g => (vmP rfl)) <| dv (fun g => (vnil rfl)) <| dv (fun g => (vfld fl76f7 rfl)) <| dv (fun g => (vldc pl3 rfl)) <| dv (fun g => (vfld fl28f6 rfl)) <| dv (fun g => (vldc pl3 rfl)) <| dv (fun g => (vfld fl28f4 rfl)) <| dv (fun g => (vldc pl3 rfl)) <| dv (fun g => (vmin rfl rfl)) <| dv (fun g => (vmax rfl rfl)) <| dv (fun g => (vnil rfl)) <| dv (fun g => (vfld fl76f7 rfl)) <| WD.eff rfl <| pm (fun _ h => h.pk1) <| stc (v := .int _ _) pl3 sz3 rfl rfl rfl <| WL.nil <| WX.brT <| WPl.fin (trivial) <| WD.nil <| WX.thenN <| WC.seq <| WC.region <| sv (vldac ag28 sz28 rfl rfl (by decide)) <| bslA (v := .agg _) (cs := mv (replyH x m.fr true (m.index + (m.cs.xs.length : Int)))) Try.underlying43 zt28 rfl rfl rfl (by decide) (by decide) fun b61 =>sv (vaS rfl) <| WL.nil <| WX.thenN <| WC.ret <| WX.ret1 rfl ((some ⟨b61, 0, none⟩, 1, [replyH x m.fr true (m.index + (m.cs.xs.length : Int))])) (⟨rfl, Nat.le_refl _⟩) rfl (fun w h => ((hnode_mk0 (x := { fedR x m.fr with log := log', commit := max x.commit (min m.commit (m.index + (m.cs.xs.length : Int))) }) (by show ¬ (0 : Int) = 1; decide) (by show ¬ (0 : Int) = 2; decide) g2 ((one_mail0 rfl h).ix [2, 5, 0, 1, 3, 4])).ix [3, 4, 1, 2, 0]).tail.tail)
end Go.Proofs.Ytekoilhjlofncaa
