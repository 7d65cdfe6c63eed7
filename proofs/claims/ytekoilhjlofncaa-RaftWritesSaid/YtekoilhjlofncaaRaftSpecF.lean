/-
  Layer 19: a node whole; time goes by.
-/
import Derived.Test.YtekoilhjlofncaaRaftSpecE
set_option linter.unusedVariables false
set_option linter.unusedSimpArgs false
set_option maxRecDepth 4000
namespace Go.Proofs.Ytekoilhjlofncaa
open Go.Sl Go.RowKit Go.Raft

/-- what stands beside a node: the votes of a candidate, the others of a leader -/
def extraC (x : Rn) (vv pv : Value) : HProp := if x.role = 1 then (fun h => ∃ m, vv = .map (some m) ∧ mp (.int .i64) m (vents x.voted) h) else if x.role = 2 then (fun h => ∃ m, pv = .map (some m) ∧ prC m x.nx x.mt (others x) h) else emp
def hnode (p : Nat) (x : Rn) : HProp := fun h => ∃ base c vv pv, x.log.length ≤ c ∧ star (cel p (ncells x base c vv pv) 76) (star (row base c 2 39 (cvs x.log)) (extraC x vv pv)) h
theorem hnode_open {w0 w : World} {A : List HProp} {p : Nat} {x : Rn} (H : Own w0 (hnode p x :: A) w) :
    ∃ i : Option Addr × Nat × Value × Value, x.log.length ≤ i.2.1 ∧ Own w0 (cel p (ncells x i.1 i.2.1 i.2.2.1 i.2.2.2) 76 :: row i.1 i.2.1 2 39 (cvs x.log) :: extraC x i.2.2.1 i.2.2.2 :: A) w := by
  obtain ⟨hb, h, ⟨h1, h2, ⟨base, c, vv, pv, hc, a⟩, a2, dd, y⟩, hw⟩ := H
  have h3 : Own w0 (star (cel p (ncells x base c vv pv) 76) (star (row base c 2 39 (cvs x.log)) (extraC x vv pv)) :: A) w := ⟨hb, h, ⟨h1, h2, a, a2, dd, y⟩, hw⟩
  exact ⟨(base, c, vv, pv), hc, h3.star.pk1.star.pk2⟩
theorem hnode_open1 {w0 w : World} {A : List HProp} {p : Nat} {x : Rn} (hr : x.role = 1) (H : Own w0 (hnode p x :: A) w) :
    ∃ i : Option Addr × Nat × Nat × Value, x.log.length ≤ i.2.1 ∧ Own w0 (cel p (ncells x i.1 i.2.1 (.map (some i.2.2.1)) i.2.2.2) 76 :: row i.1 i.2.1 2 39 (cvs x.log) :: mp (.int .i64) i.2.2.1 (vents x.voted) :: A) w := by
  obtain ⟨⟨base, c, vv, pv⟩, hc, h1⟩ := hnode_open H
  dsimp only at h1
  unfold extraC at h1
  rw [if_pos hr] at h1
  obtain ⟨hb, h, ⟨h2, h3, ⟨m, rfl, a⟩, a2, dd, y⟩, hw⟩ := h1.pk2
  exact ⟨(base, c, m, pv), hc, Own.pk2 (Own.pk2 ⟨hb, h, ⟨h2, h3, a, a2, dd, y⟩, hw⟩)⟩
theorem hnode_open2 {w0 w : World} {A : List HProp} {p : Nat} {x : Rn} (hr : x.role = 2) (H : Own w0 (hnode p x :: A) w) :
    ∃ i : Option Addr × Nat × Value × Nat × List (Int × Nat), (x.log.length ≤ i.2.1 ∧ i.2.2.2.2.map Prod.fst = others x) ∧ Own w0 (cel p (ncells x i.1 i.2.1 i.2.2.1 (.map (some i.2.2.2.1))) 76 :: row i.1 i.2.1 2 39 (cvs x.log) :: mp (.int .i64) i.2.2.2.1 (pents i.2.2.2.2) :: peersC x.nx x.mt i.2.2.2.2 :: A) w := by
  obtain ⟨⟨base, c, vv, pv⟩, hc, h1⟩ := hnode_open H
  dsimp only at h1
  unfold extraC at h1
  rw [if_neg (by omega), if_pos hr] at h1
  obtain ⟨hb, h, ⟨h2, h3, ⟨m, rfl, a⟩, a2, dd, y⟩, hw⟩ := h1.pk2
  obtain ⟨ps, hps, h4⟩ := prC_open (A := cel p (ncells x base c vv (.map (some m))) 76 :: row base c 2 39 (cvs x.log) :: A) ⟨hb, h, ⟨h2, h3, a, a2, dd, y⟩, hw⟩
  exact ⟨(base, c, vv, m, ps), ⟨hc, hps⟩, h4.ix [2, 3, 0, 1]⟩
theorem hnode_mk {w0 w : World} {A : List HProp} {p c : Nat} {base : Option Addr} {vv pv : Value} {x : Rn} (hc : x.log.length ≤ c) (H : Own w0 (cel p (ncells x base c vv pv) 76 :: row base c 2 39 (cvs x.log) :: extraC x vv pv :: A) w) : Own w0 (hnode p x :: A) w :=
  (H.pk2.pk2.intro_star.pk1.intro_star).head fun _ h => ⟨base, c, vv, pv, hc, h⟩
theorem hnode_mk0 {w0 w : World} {A : List HProp} {p c : Nat} {base : Option Addr} {vv pv : Value} {x : Rn} (h1 : x.role ≠ 1) (h2 : x.role ≠ 2) (hc : x.log.length ≤ c) (H : Own w0 (cel p (ncells x base c vv pv) 76 :: row base c 2 39 (cvs x.log) :: A) w) : Own w0 (hnode p x :: A) w :=
  hnode_mk (vv := vv) (pv := pv) hc (by unfold extraC; rw [if_neg h1, if_neg h2]; exact H.intro_emp.ix [1, 2, 0])
theorem hnode_mk1 {w0 w : World} {A : List HProp} {p c m : Nat} {base : Option Addr} {pv : Value} {x : Rn} (h1 : x.role = 1) (hc : x.log.length ≤ c) (H : Own w0 (cel p (ncells x base c (.map (some m)) pv) 76 :: row base c 2 39 (cvs x.log) :: mp (.int .i64) m (vents x.voted) :: A) w) : Own w0 (hnode p x :: A) w :=
  hnode_mk (vv := .map (some m)) (pv := pv) hc (by unfold extraC; rw [if_pos h1]; exact Own.pk2 (Own.pk2 (H.pk2.head fun h hh => ⟨m, rfl, hh⟩)))
theorem hnode_mk2 {w0 w : World} {A : List HProp} {p c m : Nat} {base : Option Addr} {vv : Value} {x : Rn} {ps : List (Int × Nat)} (h2 : x.role = 2) (hc : x.log.length ≤ c) (hps : ps.map Prod.fst = others x) (H : Own w0 (cel p (ncells x base c vv (.map (some m))) 76 :: row base c 2 39 (cvs x.log) :: mp (.int .i64) m (pents ps) :: peersC x.nx x.mt ps :: A) w) : Own w0 (hnode p x :: A) w :=
  hnode_mk (vv := vv) (pv := .map (some m)) hc (by
    unfold extraC
    rw [if_neg (by omega), if_pos h2]
    have h1 := prC_mk hps (H.ix [2, 3, 0, 1])
    exact Own.pk2 (Own.pk2 (h1.head fun h hh => ⟨m, rfl, hh⟩)))
end Go.Proofs.Ytekoilhjlofncaa
