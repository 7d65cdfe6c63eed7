/-
  Layer 19: a node in plain words: its state, what calls make of it, what it sends.
-/
import Derived.Test.YtekoilhjlofncaaSlFor
set_option linter.unusedVariables false
set_option linter.unusedSimpArgs false
namespace Go.Raft

structure Cl where
  term : Int
  data : ByteArray
deriving DecidableEq
structure Ml where
  kind : Int
  fr : Int
  to_ : Int
  term : Int
  index : Int
  prev : Int
  commit : Int
  ok : Bool
  cells : List Cl
deriving DecidableEq
structure Rn where
  id : Int
  n : Int
  term : Int
  vote : Int
  log : List Cl
  role : Int
  leader : Int
  commit : Int
  waited : Int
  since : Int
  voted : List Int
  nx : Int → Int
  mt : Int → Int
def atT (l : List Cl) (p : Int) : Int := if 1 ≤ p ∧ p ≤ (l.length : Int) then (l.getD (p.toNat - 1) ⟨0, ByteArray.empty⟩).term else 0
def rises : List Cl → Int → Int → Bool
  | [], _, _ => true
  | c :: l, least, most => decide (max least 1 ≤ c.term ∧ c.term ≤ most ∧ c.data.size ≤ 4096) && rises l c.term most
/-- the others, up to a number -/
def oth (id : Int) : Nat → List Int
  | 0 => []
  | k + 1 => if ((k : Int) + 1) = id then oth id k else oth id k ++ [(k : Int) + 1]
def newR (id n term vote : Int) (log : List Cl) : Rn := ⟨id, n, term, vote, log, 0, 0, 0, 0, 0, [], fun _ => 0, fun _ => 0⟩
def mayS (n term vote : Int) (log : List Cl) : Prop := 0 ≤ term ∧ term ≤ 1000000000 ∧ 0 ≤ vote ∧ vote ≤ n ∧ log.length ≤ 10000 ∧ rises log 1 term = true
instance (n term vote : Int) (log : List Cl) : Decidable (mayS n term vote log) := by unfold mayS; infer_instance
def mk (x : Rn) (kind to_ : Int) : Ml := ⟨kind, x.id, to_, x.term, 0, 0, 0, false, []⟩
def feedM (x : Rn) (k : Int) : Ml := { mk x 3 k with index := x.nx k - 1, prev := atT x.log (x.nx k - 1), commit := x.commit, cells := (x.log.drop (x.nx k - 1).toNat).take 8 }
def others (x : Rn) : List Int := oth x.id x.n.toNat
def feedAllS (x : Rn) : Rn × List Ml := ({ x with since := 0 }, (others x).map (feedM { x with since := 0 }))
def haveC (x : Rn) (p : Int) : Int := 1 + (((others x).filter fun k => decide (p ≤ x.mt k)).length : Int)
def countP (x : Rn) : Nat → Int
  | 0 => x.commit
  | p + 1 => if x.commit < (p : Int) + 1 ∧ atT x.log ((p : Int) + 1) = x.term then (if x.n < 2 * haveC x ((p : Int) + 1) then (p : Int) + 1 else countP x p) else x.commit
def countS (x : Rn) : Rn := { x with commit := countP x x.log.length }
def leaderS (x : Rn) : Rn := { x with role := 2, leader := x.id, nx := fun _ => (x.log.length : Int) + 1, mt := fun _ => 0 }
def addS (data : ByteArray) (x : Rn) : Rn := { x with log := x.log ++ [⟨x.term, data⟩] }
def leadS (x : Rn) : Rn × List Ml := if x.n < 2 * (x.voted.length : Int) then feedAllS (countS (if x.log.length < 10000 then addS ByteArray.empty (leaderS x) else leaderS x)) else (x, [])
def askM (x : Rn) (k : Int) : Ml := { mk x 1 k with index := x.log.length, prev := atT x.log x.log.length }
def runS (x : Rn) : Rn := { x with term := x.term + 1, vote := x.id, role := 1, leader := 0, waited := 0, voted := [x.id] }
def tickS (x : Rn) : Rn × List Ml :=
  if x.role = 2 then (if x.since + 1 < 3 then ({ x with since := x.since + 1 }, []) else feedAllS { x with since := x.since + 1 })
  else if x.waited + 1 < 10 + 3 * x.id ∨ x.term = 1000000000 then ({ x with waited := x.waited + 1 }, [])
  else if x.n < 2 then leadS (runS x) else (runS x, (others x).map (askM (runS x)))
def mailOk (id n : Int) (m : Ml) : Prop :=
  (1 ≤ m.fr ∧ m.fr ≤ n ∧ m.fr ≠ id ∧ m.to_ = id ∧ 1 ≤ m.term ∧ m.term ≤ 1000000000 ∧ 0 ≤ m.index ∧ m.index ≤ 10000) ∧
  (m.kind = 2 ∨ m.kind = 4 ∨ ((m.kind = 1 ∨ m.kind = 3) ∧ 0 ≤ m.prev ∧ m.prev ≤ m.term ∧ (m.prev = 0 ↔ m.index = 0) ∧
    (m.kind = 3 → 0 ≤ m.commit ∧ m.commit ≤ 10000 ∧ m.cells.length ≤ 8 ∧ m.index + m.cells.length ≤ 10000 ∧ rises m.cells m.prev m.term = true)))
instance (id n : Int) (m : Ml) : Decidable (mailOk id n m) := by unfold mailOk; infer_instance
def voteOk (x : Rn) (m : Ml) : Prop := m.term = x.term ∧ (x.vote = 0 ∨ x.vote = m.fr) ∧ x.role = 0 ∧ (atT x.log x.log.length < m.prev ∨ m.prev = atT x.log x.log.length ∧ (x.log.length : Int) ≤ m.index)
instance (x : Rn) (m : Ml) : Decidable (voteOk x m) := by unfold voteOk; infer_instance
def askedS (x : Rn) (m : Ml) : Rn × List Ml := (if voteOk x m then { x with vote := m.fr, waited := 0 } else x, [{ mk x 2 m.fr with ok := decide (voteOk x m) }])
def votedS (k : Int) (x : Rn) : Rn := { x with voted := if k ∈ x.voted then x.voted else x.voted ++ [k] }
def votesS (x : Rn) (m : Ml) : Rn × List Ml := if m.term ≠ x.term ∨ m.ok = false ∨ x.role ≠ 1 then (x, []) else leadS (votedS m.fr x)
def reply (x : Rn) (k : Int) (ok : Bool) (at_ : Int) : List Ml := [{ mk x 4 k with ok := ok, index := at_ }]
def mergeS (log : List Cl) (commit : Int) : Int → List Cl → Option (List Cl)
  | _, [] => some log
  | p, c :: l => if atT log (p + 1) = c.term then mergeS log commit (p + 1) l else if p + 1 ≤ commit then none else some (log.take p.toNat ++ c :: l)
def fedS (x : Rn) (m : Ml) : Rn × List Ml :=
  if m.term < x.term then (x, reply x m.fr false x.log.length)
  else if x.role = 2 then (x, [])
  else if (x.log.length : Int) < m.index ∨ atT x.log m.index ≠ m.prev then ({ x with role := 0, leader := m.fr, waited := 0 }, reply x m.fr false (min (x.log.length : Int) (m.index - 1)))
  else match mergeS x.log x.commit m.index m.cells with
    | none => ({ x with role := 0, leader := m.fr, waited := 0 }, [])
    | some log => ({ x with role := 0, leader := m.fr, waited := 0, log := log, commit := max x.commit (min m.commit (m.index + m.cells.length)) }, reply x m.fr true (m.index + m.cells.length))
def upd (f : Int → Int) (k v : Int) : Int → Int := fun j => if j = k then v else f j
def answeredS (x : Rn) (m : Ml) : Rn × List Ml :=
  if m.term ≠ x.term ∨ x.role ≠ 2 ∨ (x.log.length : Int) < m.index then (x, [])
  else if m.ok = false then
    let y := { x with nx := upd x.nx m.fr (max (x.mt m.fr + 1) (min (m.index + 1) (x.nx m.fr - 1))) }
    (y, [feedM y m.fr])
  else
    let y := countS { x with mt := upd x.mt m.fr (max (x.mt m.fr) m.index), nx := upd x.nx m.fr (max (x.mt m.fr) m.index + 1) }
    if (x.log.length : Int) < max (x.mt m.fr) m.index + 1 then (y, []) else (y, [feedM y m.fr])
def stepS (m : Ml) (x : Rn) : Rn := if x.term < m.term then { x with term := m.term, vote := 0, role := 0, leader := 0 } else x
def takeS (x : Rn) (m : Ml) : Rn × List Ml :=
  if mailOk x.id x.n m then (if m.kind = 1 then askedS (stepS m x) m else if m.kind = 2 then votesS (stepS m x) m else if m.kind = 3 then fedS (stepS m x) m else answeredS (stepS m x) m) else (x, [])
def proposeE (x : Rn) (data : ByteArray) : Int := if data.size = 0 ∨ 4096 < data.size then 1 else if x.role ≠ 2 then 190 else if 10000 ≤ x.log.length then 8 else 0
def proposeS (x : Rn) (data : ByteArray) : Rn × List Ml := feedAllS (countS (addS data x))

/-! ### What stays true -/
structure RInv (x : Rn) : Prop where
  n : 1 ≤ x.n ∧ x.n ≤ 5
  id : 1 ≤ x.id ∧ x.id ≤ x.n
  term : 0 ≤ x.term ∧ x.term ≤ 1000000000
  vote : 0 ≤ x.vote ∧ x.vote ≤ x.n
  log : x.log.length ≤ 10000
  rise : rises x.log 1 x.term = true
  role : x.role = 0 ∨ x.role = 1 ∨ x.role = 2
  lead : x.role ≠ 0 → 1 ≤ x.term
  commit : 0 ≤ x.commit ∧ x.commit ≤ x.log.length
  waited : 0 ≤ x.waited
  since : 0 ≤ x.since ∧ x.since ≤ 2
  voted : x.role = 1 → x.voted.Nodup ∧ ∀ k ∈ x.voted, 1 ≤ k ∧ k ≤ x.n
  peers : x.role = 2 → ∀ k, 0 ≤ x.mt k ∧ x.mt k + 1 ≤ x.nx k ∧ x.nx k ≤ (x.log.length : Int) + 1
theorem oth_mem {id k : Int} : ∀ {n : Nat}, k ∈ oth id n ↔ 1 ≤ k ∧ k ≤ n ∧ k ≠ id
  | 0 => by simp [oth]; omega
  | n + 1 => by
    unfold oth
    have ih := oth_mem (id := id) (k := k) (n := n)
    split
    · rw [ih]; constructor
      · rintro ⟨a, b, c⟩; exact ⟨a, by omega, c⟩
      · rintro ⟨a, b, c⟩; exact ⟨a, by omega, c⟩
    · rw [List.mem_append, ih, List.mem_singleton]; constructor
      · rintro (⟨a, b, c⟩ | rfl)
        · exact ⟨a, by omega, c⟩
        · exact ⟨by omega, by omega, by omega⟩
      · rintro ⟨a, b, c⟩
        by_cases h : k = (n : Int) + 1
        · exact .inr h
        · exact .inl ⟨a, by omega, c⟩
theorem oth_nodup {id : Int} : ∀ {n : Nat}, (oth id n).Nodup
  | 0 => by simp [oth]
  | n + 1 => by
    unfold oth
    split
    · exact oth_nodup
    · rw [List.nodup_append]
      refine ⟨oth_nodup, by simp, ?_⟩
      intro a ha b hb hab
      have := (oth_mem.1 ha).2.1
      simp at hb
      omega
theorem oth_len {id : Int} : ∀ {n : Nat}, (oth id n).length ≤ n
  | 0 => by simp [oth]
  | n + 1 => by
    unfold oth
    have := oth_len (id := id) (n := n)
    split
    · omega
    · simp; omega
theorem atT_pos {l : List Cl} {p : Nat} {c : Cl} (h : l[p]? = some c) : atT l ((p : Int) + 1) = c.term := by
  have hp := (List.getElem?_eq_some_iff.1 h).1
  unfold atT
  rw [if_pos ⟨by omega, by omega⟩, show ((p : Int) + 1).toNat - 1 = p by omega, List.getD_eq_getElem?_getD, h]; rfl
theorem atT_zero {l : List Cl} {p : Int} (h : p < 1 ∨ (l.length : Int) < p) : atT l p = 0 := by unfold atT; rw [if_neg (by omega)]
theorem rises_mem {l : List Cl} {least most : Int} (h : rises l least most = true) : ∀ c ∈ l, 1 ≤ c.term ∧ least ≤ c.term ∧ c.term ≤ most ∧ c.data.size ≤ 4096 := by
  induction l generalizing least with
  | nil => simp
  | cons d l ih =>
    simp only [rises, Bool.and_eq_true, decide_eq_true_eq] at h
    intro c hc
    rcases List.mem_cons.1 hc with rfl | hc
    · omega
    · have := ih h.2 c hc; omega
theorem atT_bound {l : List Cl} {most p : Int} (h : rises l 1 most = true) (h0 : 0 ≤ most) : 0 ≤ atT l p ∧ atT l p ≤ most := by
  unfold atT
  split
  · rename_i hp
    have hl : p.toNat - 1 < l.length := by omega
    have := rises_mem h l[p.toNat - 1] (List.getElem_mem hl)
    rw [List.getD_eq_getElem?_getD, List.getElem?_eq_getElem hl]
    simp only [Option.getD_some]
    omega
  · omega
theorem rises_more {l : List Cl} {least most most' : Int} (h : rises l least most = true) (hm : most ≤ most') : rises l least most' = true := by
  induction l generalizing least with
  | nil => rfl
  | cons d l ih =>
    simp only [rises, Bool.and_eq_true, decide_eq_true_eq] at h ⊢
    exact ⟨by omega, ih h.2⟩
theorem rises_less {l : List Cl} {least least' most : Int} (h : rises l least most = true) (hm : least' ≤ least) : rises l least' most = true := by
  cases l with
  | nil => rfl
  | cons d l =>
    simp only [rises, Bool.and_eq_true, decide_eq_true_eq] at h ⊢
    exact ⟨by omega, h.2⟩
theorem rises_append {l m : List Cl} {least most : Int} : rises (l ++ m) least most = true ↔ rises l least most = true ∧ rises m (if l = [] then least else (l.getLastD ⟨0, ByteArray.empty⟩).term) most = true := by
  induction l generalizing least with
  | nil => simp [rises]
  | cons d l ih =>
    simp only [List.cons_append, rises, Bool.and_eq_true, decide_eq_true_eq, ih, and_assoc]
    cases l with
    | nil => simp [rises]
    | cons e l => simp [List.getLastD]
theorem countP_bound {x : Rn} (h : 0 ≤ x.commit) : ∀ {p : Nat}, x.commit ≤ p ∨ True → x.commit ≤ countP x p ∧ (countP x p ≤ max x.commit p)
  | 0, _ => by unfold countP; omega
  | p + 1, _ => by
    have := countP_bound h (p := p) (.inr trivial)
    unfold countP
    split
    · split <;> omega
    · omega
end Go.Raft
