/-
  Layer 19: nodes and their mails, act by act: any act.
-/
import Derived.Test.YtekoilhjlofncaaRaftNetB
set_option linter.unusedVariables false
set_option linter.unusedSimpArgs false
set_option maxRecDepth 4000
namespace Go.Proofs.Ytekoilhjlofncaa
open Go.Sl Go.RowKit Go.Raft

def pB : ByteArray := ByteArray.mk #[112]
def tickD (l : List Rn) (ms : List Ml) (j : Nat) : List Rn × List Ml := match l[j]? with
  | some x => (l.set j (tickS x).1, sendN ms (tickS x).2)
  | none => (l, ms)
def comeD (l : List Rn) (ms : List Ml) (a : Nat) (st : Bool) : List Rn × List Ml := match ms[a]? with
  | some m => (match l[(m.to_ - 1).toNat]? with
    | some x => (l.set (m.to_ - 1).toNat (takeS x m).1, sendN (if st then ms else ms.eraseIdx a) (takeS x m).2)
    | none => (l, ms))
  | none => (l, ms)
def againD (l : List Rn) (ms : List Ml) (j : Nat) : List Rn × List Ml := match l[j]? with
  | some x => (l.set j (againS x), ms)
  | none => (l, ms)
def propD (l : List Rn) (ms : List Ml) (j : Nat) : List Rn × List Ml := match l[j]? with
  | some x => if proposeE x pB = 0 then (l.set j (proposeS x pB).1, sendN ms (proposeS x pB).2) else (l, ms)
  | none => (l, ms)
def doS (l : List Rn) (ms : List Ml) (k i : Int) : List Rn × List Ml :=
  if k = 0 then tickD l ms (pickN i l.length).toNat
  else if k = 1 ∨ k = 2 ∨ k = 3 then
    if ms.length = 0 then (l, ms) else if k = 3 then (l, ms.eraseIdx (pickN i ms.length).toNat) else comeD l ms (pickN i ms.length).toNat (decide (k = 2))
  else if k = 4 then againD l ms (pickN i l.length).toNat
  else if k = 5 then propD l ms (pickN i l.length).toNat
  else (l, ms)
structure NetOk (l : List Rn) (ms : List Ml) (c : Int) : Prop where
  n1 : 1 ≤ l.length
  n5 : l.length ≤ 5
  nodes : ∀ (j : Nat) (x : Rn), l[j]? = some x → RInv x ∧ x.id = (j : Int) + 1 ∧ x.n = l.length ∧ x.waited ≤ c
  len : ms.length ≤ 300
  to_ : ∀ m ∈ ms, 1 ≤ m.to_ ∧ m.to_ ≤ l.length
def nsL (s : NS) : List Rn := s.nodes.map Prod.snd
def nsM (s : NS) : List Ml := s.mails.map Mh.ml
theorem nsL_length (s : NS) : (nsL s).length = s.nodes.length := List.length_map ..
theorem nsM_length (s : NS) : (nsM s).length = s.mails.length := List.length_map ..
structure DoR (s s' : NS) (k i : Int) : Prop where
  d : (nsL s', nsM s') = doS (nsL s) (nsM s) k i
  led : s'.led = s.led
  done : s'.done = s.done
  seen : s'.seen = s.seen
theorem sendN_map {α β : Type} (f : α → β) (ms l : List α) : (sendN ms l).map f = sendN (ms.map f) (l.map f) := by
  unfold sendN; rw [List.map_append, List.map_take, List.length_map]
theorem erase_map {α β : Type} (f : α → β) (l : List α) (a : Nat) : (l.eraseIdx a).map f = (l.map f).eraseIdx a := by
  rw [List.eraseIdx_eq_take_drop_succ, List.eraseIdx_eq_take_drop_succ, List.map_append, List.map_take, List.map_drop]
theorem set_snd {l : List (Nat × Rn)} {j p : Nat} {y : Rn} : (l.set j (p, y)).map Prod.snd = (l.map Prod.snd).set j y := List.map_set ..
theorem do_tick {s : NS} {k i : Int} {j : Nat} {q : Nat × Rn} {l : List Mh} (hk : k = 0) (hj : pickN i s.nodes.length = (j : Int)) (hq : s.nodes[j]? = some q) (hl : l.map Mh.ml = (tickS q.2).2) : DoR s { s with nodes := s.nodes.set j (q.1, (tickS q.2).1), mails := sendN s.mails l } k i := by
  refine ⟨?_, rfl, rfl, rfl⟩
  subst hk
  have h1 : (nsL s)[j]? = some q.2 := by unfold nsL; rw [List.getElem?_map, hq]; rfl
  unfold doS
  rw [if_pos rfl, nsL_length, hj, Int.toNat_natCast]
  unfold tickD
  rw [h1]
  exact Prod.ext set_snd ((sendN_map ..).trans (by rw [hl]; rfl))
theorem do_none {s : NS} {k i : Int} (hk : (k = 1 ∨ k = 2 ∨ k = 3) ∧ s.mails.length = 0 ∨ ¬ (k = 0 ∨ (k = 1 ∨ k = 2 ∨ k = 3) ∨ k = 4 ∨ k = 5)) : DoR s s k i := by
  refine ⟨?_, rfl, rfl, rfl⟩
  unfold doS
  rcases hk with ⟨h1, h2⟩ | h
  · rw [if_neg (by omega), if_pos h1, if_pos (by rw [nsM_length]; exact h2)]
  · rw [if_neg (by omega), if_neg (by omega), if_neg (by omega), if_neg (by omega)]
theorem do_lose {s : NS} {k i : Int} {a : Nat} (hk : k = 3) (hm : s.mails.length ≠ 0) (ha : pickN i s.mails.length = (a : Int)) : DoR s { s with mails := s.mails.eraseIdx a } k i := by
  refine ⟨?_, rfl, rfl, rfl⟩
  unfold doS
  rw [if_neg (by omega), if_pos (by omega), if_neg (by rw [nsM_length]; exact hm), if_pos hk, nsM_length, ha, Int.toNat_natCast]
  exact Prod.ext rfl (erase_map ..)
theorem do_come {s : NS} {k i : Int} {a j : Nat} {m : Mh} {q : Nat × Rn} {l : List Mh} (hk : k = 1 ∨ k = 2) (hm : s.mails[a]? = some m) (ha : pickN i s.mails.length = (a : Int)) (hto : m.to_ = (j : Int) + 1) (hq : s.nodes[j]? = some q) (hl : l.map Mh.ml = (takeS q.2 m.ml).2) : DoR s (comeN s a j q m.ml (decide (k = 2)) l) k i := by
  refine ⟨?_, rfl, rfl, rfl⟩
  have h0 := (List.getElem?_eq_some_iff.1 hm).1
  have h1 : (nsL s)[j]? = some q.2 := by unfold nsL; rw [List.getElem?_map, hq]; rfl
  have h2 : (nsM s)[a]? = some m.ml := by unfold nsM; rw [List.getElem?_map, hm]; rfl
  have h3 : (m.ml.to_ - 1).toNat = j := by show (m.to_ - 1).toNat = j; omega
  unfold doS
  rw [if_neg (by omega), if_pos (by omega), if_neg (by rw [nsM_length]; omega), if_neg (by omega), nsM_length, ha, Int.toNat_natCast]
  unfold comeD
  rw [h2]
  dsimp only
  rw [h3, h1]
  refine Prod.ext set_snd ((sendN_map ..).trans ?_)
  rw [hl]
  cases decide (k = 2)
  · exact congrArg (fun x => sendN x _) (erase_map ..)
  · rfl
theorem do_again {s : NS} {k i : Int} {j p : Nat} {q : Nat × Rn} (hk : k = 4) (hj : pickN i s.nodes.length = (j : Int)) (hq : s.nodes[j]? = some q) : DoR s { s with nodes := s.nodes.set j (p, againS q.2) } k i := by
  refine ⟨?_, rfl, rfl, rfl⟩
  subst hk
  have h1 : (nsL s)[j]? = some q.2 := by unfold nsL; rw [List.getElem?_map, hq]; rfl
  unfold doS
  rw [if_neg (by decide), if_neg (by decide), if_pos rfl, nsL_length, hj, Int.toNat_natCast]
  unfold againD
  rw [h1]
  exact Prod.ext set_snd rfl
theorem do_prop {s : NS} {k i : Int} {j : Nat} {q : Nat × Rn} {l : List Mh} (hk : k = 5) (hj : pickN i s.nodes.length = (j : Int)) (hq : s.nodes[j]? = some q) (he : proposeE q.2 pB = 0) (hl : l.map Mh.ml = (proposeS q.2 pB).2) : DoR s { s with nodes := s.nodes.set j (q.1, (proposeS q.2 pB).1), mails := sendN s.mails l } k i := by
  refine ⟨?_, rfl, rfl, rfl⟩
  subst hk
  have h1 : (nsL s)[j]? = some q.2 := by unfold nsL; rw [List.getElem?_map, hq]; rfl
  unfold doS
  rw [if_neg (by decide), if_neg (by decide), if_neg (by decide), if_pos rfl, nsL_length, hj, Int.toNat_natCast]
  unfold propD
  rw [h1]
  dsimp only
  rw [if_pos he]
  exact Prod.ext set_snd ((sendN_map ..).trans (by rw [hl]; rfl))
theorem do_noprop {s : NS} {k i : Int} {j : Nat} {q : Nat × Rn} (hk : k = 5) (hj : pickN i s.nodes.length = (j : Int)) (hq : s.nodes[j]? = some q) (he : proposeE q.2 pB ≠ 0) : DoR s s k i := by
  refine ⟨?_, rfl, rfl, rfl⟩
  subst hk
  have h1 : (nsL s)[j]? = some q.2 := by unfold nsL; rw [List.getElem?_map, hq]; rfl
  unfold doS
  rw [if_neg (by decide), if_neg (by decide), if_neg (by decide), if_pos rfl, nsL_length, hj, Int.toNat_natCast]
  unfold propD
  rw [h1]
  dsimp only
  rw [if_neg he]
theorem law_pick_at {w0 : World} {A : List HProp} {c n v : Int} (h : pickN c n = v) (hn : 1 ≤ n ∧ n ≤ 9223372036854775807) (hc : -9223372036854775808 ≤ c ∧ c ≤ 9223372036854775807) :
    Fun Try.prog w0 28 [.int .i64 c, .int .i64 n] A (Ret w0 (fun _ : Unit => True) (fun _ => .int .i64 v) (fun _ => A)) := by
  subst h; exact law_pick hn hc
end Go.Proofs.Ytekoilhjlofncaa
