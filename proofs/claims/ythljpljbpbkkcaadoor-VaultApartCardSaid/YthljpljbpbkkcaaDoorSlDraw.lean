/-
  Regions that draw their order, with operations that turn the world: what is quiet comes first, then one of those that turn it, and so on. Plain theorems over any program.
-/
import Derived.Test.YthljpljbpbkkcaaDoorSlMore
set_option linter.unusedVariables false
set_option linter.unusedSimpArgs false
namespace Go.Sl
open Go.RowKit

section
variable {P : Program} {ops : Array Oper} {md : Region.Mode} {Good : (World → Prop) → Prop}
/-- one operation from a class of worlds into a class of worlds -/
def stepG (P : Program) (Good : (World → Prop) → Prop) (o : Oper) (a : Act) (C : World → Prop) (K : Act → (World → Prop) → Prop) : Prop :=
  ∀ w, C w → o.wp P a w (fun a' w' => ∃ C', Good C' ∧ C' w' ∧ K a' C') (fun _ _ _ => False)
def opG (P : Program) (ops : Array Oper) (Good : (World → Prop) → Prop) (i : Nat) (K : Act → (World → Prop) → Prop) (a : Act) (C : World → Prop) : Prop :=
  match ops[i]? with
  | none => K a C
  | some o => if Region.wanted o (yielded ops a.tmps) then stepG P Good o a C K else K (a.put o.dst undef) C
/-- 'bs.1': the operations behind which the classes are anew; 'bs.2': those that turn the world within the classes -/
def anyG (P : Program) (md : Region.Mode) (ops : Array Oper) (bs : List Nat × List Nat) (Q : Act → (World → Prop) → Prop) : Nat → ((World → Prop) → Prop) → Array Bool → Act → (World → Prop) → Prop
  | 0, _, listed, a, C => Region.ready md ops listed = [] ∧ Q a C
  | fuel + 1, Good, listed, a, C => (Region.ready md ops listed = [] → Q a C) ∧ ∀ i ∈ Region.ready md ops listed,
    (bs.1.contains i = false → opG P ops (fun C' => Good C' ∧ (bs.2.contains i = false → C' = C)) i (anyG P md ops bs Q fuel Good (listed.setIfInBounds i true)) a C) ∧
    (bs.1.contains i = true → opG P ops (fun _ => True) i (fun a C => ∃ Good', Good' C ∧ anyG P md ops bs Q fuel Good' (listed.setIfInBounds i true) a C) a C)
theorem stepG_mono {Good' : (World → Prop) → Prop} {o : Oper} {a : Act} {C : World → Prop} {K K' : Act → (World → Prop) → Prop} (hg : ∀ C, Good C → Good' C) (h : ∀ a C, Good C → K a C → K' a C) (hh : stepG P Good o a C K) : stepG P Good' o a C K' :=
  fun w hw => Oper.wp_mono (fun a' w' ⟨C', h1, h2, h3⟩ => ⟨C', hg _ h1, h2, h _ _ h1 h3⟩) (hh w hw)
theorem opG_mono {Good' : (World → Prop) → Prop} {i : Nat} {a : Act} {C : World → Prop} {K K' : Act → (World → Prop) → Prop} (hC : Good C) (hg : ∀ C, Good C → Good' C) (h : ∀ a C, Good C → K a C → K' a C) (hh : opG P ops Good i K a C) : opG P ops Good' i K' a C := by
  unfold opG at *
  split
  · rename_i ho; simp only [ho] at hh; exact h _ _ hC hh
  · rename_i o ho
    simp only [ho] at hh
    split
    · rename_i hw; simp only [hw, if_true] at hh; exact stepG_mono hg h hh
    · rename_i hw; simp only [hw] at hh; exact h _ _ hC hh
theorem anyG_mono {bs : List Nat × List Nat} {Good' : (World → Prop) → Prop} {Q : Act → (World → Prop) → Prop} (hg : ∀ C, Good C → Good' C) : ∀ (fuel : Nat) (listed : Array Bool) (a : Act) (C : World → Prop), Good C →
    anyG P md ops bs Q fuel Good listed a C → anyG P md ops bs Q fuel Good' listed a C
  | 0, _, _, _, _, h => h
  | fuel + 1, _, _, _, hC, h => ⟨h.1, fun i hi => ⟨fun hb => opG_mono ⟨hC, fun _ => rfl⟩ (fun C' h => ⟨hg C' h.1, h.2⟩) (fun a C hC h => anyG_mono hg fuel _ a C hC.1 h) ((h.2 i hi).1 hb), (h.2 i hi).2⟩⟩
/-- quiet in every class that may come up -/
def QuietG (P : Program) (ops : Array Oper) (Good : (World → Prop) → Prop) (o : Oper) (v : Value) (a : Act) : Prop := ∀ C, Good C → YieldsIn P ops C o v a
theorem opG_yield {i : Nat} {o : Oper} {v : Value} {a : Act} {C : World → Prop} (hC : Good C) (hi : ops[i]? = some o) (hy : YieldsIn P ops C o v a) {K : Act → (World → Prop) → Prop} (h : K (a.put o.dst v) C) : opG P ops Good i K a C := by
  unfold Sl.opG
  simp only [hi]
  rcases hy with ⟨hw, hv⟩ | ⟨hw, rfl⟩
  · simp only [hw, if_true]
    intro w hCw
    exact Oper.wp_of_quiet (C := C) (K := fun a' => K a' C) hCw (fun a' w' hw' hk => ⟨C, hC, hw', hk⟩) ⟨v, hv, h⟩
  · simp only [hw, Bool.false_eq_true, if_false]; exact h
theorem opG_put {G2 : (World → Prop) → Prop} {j : Nat} {oi oj : Oper} {v : Value} (hj : ops[j]? = some oj) (hap : oi.apart ops oj = true) (hsi : ∀ cs b, oi.op ≠ .select cs b) (hsj : ∀ cs b, oj.op ≠ .select cs b)
    {K : Act → (World → Prop) → Prop} {a : Act} {C : World → Prop} (hy : QuietG P ops G2 oi v a) (h : opG P ops Good j K (a.put oi.dst v) C) :
    opG P ops Good j (fun a' C' => QuietG P ops G2 oi v a' ∧ K (a'.put oi.dst v) C') a C := by
  obtain ⟨h1, h2, h3⟩ := Oper.apart_spec hap
  have keep : ∀ (a : Act), QuietG P ops G2 oi v a → ∀ u, QuietG P ops G2 oi v (a.put oj.dst u) := fun a hy u C hC =>
    (hy C hC).of_same (execOp_put oi hsi a oj.dst u h3) (wanted_put oi a oj.dst u h3)
  have keepD : ∀ d, QuietG P ops G2 oi v { a with defers := d :: a.defers } := fun d C hC => (hy C hC).of_same rfl rfl
  unfold opG stepG at *
  simp only [hj] at *
  rw [wanted_put oj a oi.dst v h1] at h
  split
  · rename_i hw
    simp only [hw, if_true] at h
    intro w hCw
    have h := h w hCw
    unfold Oper.wp at *
    rw [execOp_put oj hsj a oi.dst v h1] at h
    generalize (execOp a.eval oj).run P w = r at *
    cases r with
    | ok n w' =>
      cases n <;> simp only [Oper.upon] at h ⊢
      case value u =>
        obtain ⟨C', g1, g2, g3⟩ := h
        exact ⟨C', g1, g2, keep a hy u, by rw [← Act.put_comm a v u h2]; exact g3⟩
      case skip =>
        obtain ⟨C', g1, g2, g3⟩ := h
        exact ⟨C', g1, g2, keep a hy _, by rw [← Act.put_comm a v undef h2]; exact g3⟩
      case defer d =>
        obtain ⟨C', g1, g2, g3⟩ := h
        refine ⟨C', g1, g2, keep _ (keepD d) _, ?_⟩
        rw [← Act.put_comm _ v undef h2, ← Act.put_defers]
        exact g3
      case enter f args =>
        refine Calls.mono h fun e w'' he => ?_
        cases e with
        | returned u =>
          obtain ⟨C', g1, g2, g3⟩ := he
          exact ⟨C', g1, g2, keep a hy u, by rw [← Act.put_comm a v u h2]; exact g3⟩
        | panicked c => exact he
        | outgrown => exact he
      case row row args =>
        refine Rows.mono h fun u w'' he => ?_
        obtain ⟨C', g1, g2, g3⟩ := he
        exact ⟨C', g1, g2, keep a hy u, by rw [← Act.put_comm a v u h2]; exact g3⟩
    | halt x w' =>
      cases x <;> simp only [Oper.upon] at h
  · rename_i hw
    simp only [hw] at h
    exact ⟨keep a hy _, by rw [← Act.put_comm a v undef h2]; exact h⟩
/-- what is quiet may be taken first -/
theorem anyG_first {bs : List Nat × List Nat} {G2 : (World → Prop) → Prop} {Q : Act → (World → Prop) → Prop} {i : Nat} {oi : Oper} {v : Value} (hi : ops[i]? = some oi) (hsel : ∀ (j : Nat) (o : Oper) cs b, ops[j]? = some o → o.op ≠ .select cs b) (hib : bs.1.contains i = false) (U : List Nat) :
    ∀ (fuel : Nat) (listed : Array Bool) (a : Act) (C : World → Prop), Good C → G2 C →
      (∀ u ∈ U, listed.getD u true = false ∧ ∃ o, ops[u]? = some o ∧ ∃ e ∈ o.after, Region.binds md e = true ∧ (e.on = i ∨ e.on ∈ U)) →
      (∀ j oj, ops[j]? = some oj → j ≠ i → listed.getD j true = false → (∀ e ∈ oj.after, Region.binds md e = true → e.on ≠ i) → oi.apart ops oj = true ∧ (bs.1.contains j = false ∨ j ∈ U) ∧ (bs.2.contains j = false ∨ j ∈ U ∨ ∀ C', Good C' → G2 C')) →
      i ∈ Region.ready md ops listed → QuietG P ops G2 oi v a →
      anyG P md ops bs Q fuel Good (listed.setIfInBounds i true) (a.put oi.dst v) C → anyG P md ops bs Q (fuel + 1) Good listed a C := by
  intro fuel
  induction fuel with
  | zero =>
    intro listed a C hC hG2 _ _ hr hy H
    refine ⟨fun h => (by rw [h] at hr; cases hr), fun j hj => ?_⟩
    by_cases hji : j = i
    · subst hji; exact ⟨fun _ => opG_yield ⟨hC, fun _ => rfl⟩ hi (hy C hG2) H, fun h => by rw [hib] at h; cases h⟩
    · have := ready_mono hj hji
      rw [H.1] at this
      cases this
  | succ fuel ih =>
    intro listed a C hC hG2 hU hfree hr hy H
    refine ⟨fun h => (by rw [h] at hr; cases hr), fun j hj => ?_⟩
    by_cases hji : j = i
    · subst hji; exact ⟨fun _ => opG_yield ⟨hC, fun _ => rfl⟩ hi (hy C hG2) H, fun h => by rw [hib] at h; cases h⟩
    · have h1 := H.2 j (ready_mono hj hji)
      obtain ⟨hjun, oj, hoj, hall⟩ := mem_ready.1 hj
      have clash : ∀ k, listed.getD k true = false → listed.getD k false = true → False := fun k h0 h1 => by
        rcases Nat.lt_or_ge k listed.size with h' | h'
        · simp [h'] at h0 h1; rw [h0] at h1; cases h1
        · simp [Array.getElem?_eq_none h'] at h1
      have hjU : j ∉ U := fun hju => by
        obtain ⟨_, o, ho, e, he, hb, hon⟩ := hU j hju
        rw [hoj] at ho; cases ho
        have h2 := hall e he hb
        rcases hon with hon | hon
        · rw [hon] at h2; exact clash _ (mem_ready.1 hr).1 h2
        · exact clash _ (hU _ hon).1 h2
      have hnot : ∀ e ∈ oj.after, Region.binds md e = true → e.on ≠ i := fun e he hb heq => by
        have h1 := hall e he hb
        have h0 := (mem_ready.1 hr).1
        rw [heq] at h1
        rcases Nat.lt_or_ge i listed.size with h' | h'
        · simp [h'] at h0 h1; rw [h0] at h1; cases h1
        · simp [Array.getElem?_eq_none h'] at h1
      have hap := hfree j oj hoj hji hjun hnot
      have hbj : bs.1.contains j = false := hap.2.1.resolve_right hjU
      have hst : ∀ C', Good C' → (bs.2.contains j = false → C' = C) → G2 C' := fun C' h1 h2 => by
        rcases hap.2.2 with h | h | h
        · rw [h2 h]; exact hG2
        · exact absurd h hjU
        · exact h C' h1
      refine ⟨fun hb => ?_, fun h => by rw [hbj] at h; cases h⟩
      have h2 := opG_put hoj hap.1 (fun cs b => hsel i oi cs b hi) (fun cs b => hsel j oj cs b hoj) hy (h1.1 hb)
      have hfree' : ∀ k ok, ops[k]? = some ok → k ≠ i → (listed.setIfInBounds j true).getD k true = false →
          (∀ e ∈ ok.after, Region.binds md e = true → e.on ≠ i) → oi.apart ops ok = true ∧ (bs.1.contains k = false ∨ k ∈ U) ∧ (bs.2.contains k = false ∨ k ∈ U ∨ ∀ C', Good C' → G2 C') := fun k ok hk hki hun hno => by
        refine hfree k ok hk hki ?_ hno
        by_cases hjk : j = k
        · subst hjk; exact hjun
        · rw [getD_set_ne true hjk] at hun; exact hun
      have hU' : ∀ u ∈ U, (listed.setIfInBounds j true).getD u true = false ∧ ∃ o, ops[u]? = some o ∧ ∃ e ∈ o.after, Region.binds md e = true ∧ (e.on = i ∨ e.on ∈ U) := fun u hu => by
        refine ⟨?_, (hU u hu).2⟩
        have hne : j ≠ u := fun h => by subst h; exact hjU hu
        rw [getD_set_ne true hne]
        exact (hU u hu).1
      refine opG_mono ⟨hC, fun _ => rfl⟩ (fun _ h => h) (fun a' C' hC' h3 => ih (listed.setIfInBounds j true) a' C' hC'.1 (hst C' hC'.1 hC'.2) hU' hfree' (ready_mono hr (Ne.symm hji)) h3.1 ?_) h2
      rw [Array.setIfInBounds_comm _ _ hji]
      exact h3.2
theorem wpOp_of_opG {Q' : Exit → Act → World → Prop} {i : Nat} {a : Act} {C : World → Prop} {w : World} {K : Act → (World → Prop) → Prop} {K' : Act → World → Prop} (hw : C w) (hK : ∀ a C w, C w → K a C → K' a w) (h : opG P ops Good i K a C) : wpOp P ops Q' i K' a w := by
  unfold opG at h
  unfold wpOp
  split
  · rename_i ho; simp only [ho] at h; exact hK _ _ _ hw h
  · rename_i o ho
    simp only [ho] at h
    split
    · rename_i hwd
      simp only [hwd, if_true] at h
      refine .inl ?_
      have h := h w hw
      unfold Oper.wp at *
      generalize (execOp a.eval o).run P w = r at *
      cases r with
      | ok n w' =>
        cases n <;> simp only [Oper.upon] at h ⊢
        case value u => obtain ⟨C', g1, g2, g3⟩ := h; exact hK _ _ _ g2 g3
        case skip => obtain ⟨C', g1, g2, g3⟩ := h; exact hK _ _ _ g2 g3
        case defer d => obtain ⟨C', g1, g2, g3⟩ := h; exact hK _ _ _ g2 g3
        case enter f args =>
          refine Calls.mono h fun e w'' he => ?_
          cases e with
          | returned u => obtain ⟨C', g1, g2, g3⟩ := he; exact hK _ _ _ g2 g3
          | panicked c => exact he.elim
          | outgrown => obtain ⟨_, _, he⟩ := he; exact he.elim
        case row row args =>
          refine Rows.mono h fun u w'' he => ?_
          obtain ⟨C', g1, g2, g3⟩ := he
          exact hK _ _ _ g2 g3
      | halt x w' => cases x <;> simp only [Oper.upon] at h
    · rename_i hwd; simp only [hwd] at h; exact hK _ _ _ hw h
/-- it is a wpAny -/
theorem wpAny_of_G {bs : List Nat × List Nat} {Q' : Exit → Act → World → Prop} : ∀ (fuel : Nat) (Good : (World → Prop) → Prop) (listed : Array Bool) (a : Act) (C : World → Prop) (w : World), C w →
    anyG P md ops bs (fun a C => ∀ w, C w → Q' .normal a w) fuel Good listed a C → wpAny P md ops Q' fuel listed a w
  | 0, _, _, _, _, _, hw, h => ⟨h.1, h.2 _ hw⟩
  | fuel + 1, Good, listed, a, C, w, hw, h => ⟨fun h0 => h.1 h0 _ hw, fun i hi => by
    cases hb : bs.1.contains i with
    | false => exact wpOp_of_opG hw (fun a C w hw h => wpAny_of_G fuel _ _ _ _ _ hw h) ((h.2 i hi).1 hb)
    | true => exact wpOp_of_opG hw (fun a C w hw ⟨_, _, h⟩ => wpAny_of_G fuel _ _ _ _ _ hw h) ((h.2 i hi).2 hb)⟩

/-! ### Plans -/
inductive Plan
  | done (is : List Nat)
  | pre (is : List Nat) (p : Plan)
  | one (is : List Nat) (e : Nat) (p : Plan)
  | bar (is : List Nat) (e : Nat) (p : Plan)
  | two (is : List Nat) (e1 : Nat) (p1 : Plan) (e2 : Nat) (p2 : Plan)
/-- these come up one after the other, each apart from what waits; then the rest is asked -/
def depU (md : Region.Mode) (ops : Array Oper) (listed : Array Bool) (i : Nat) : List Nat := (List.range ops.size).foldl (fun acc j => if !listed.getD j true && (match ops[j]? with
  | some o => o.after.any (fun e => Region.binds md e && (e.on == i || acc.contains e.on))
  | none => false) then j :: acc else acc) []
def okU (md : Region.Mode) (ops : Array Oper) (listed : Array Bool) (i : Nat) (U : List Nat) : Bool := U.all fun u => !listed.getD u true && match ops[u]? with
  | some o => o.after.any (fun e => Region.binds md e && (e.on == i || U.contains e.on))
  | none => false
def freeB (md : Region.Mode) (ops : Array Oper) (bs : List Nat × List Nat) (listed : Array Bool) (i : Nat) : Bool := !bs.1.contains i && (okU md ops listed i (depU md ops listed i) && bs.1.all fun j => listed.getD j true || (depU md ops listed i).contains j)
/-- nothing that turns the world may come ahead of it -/
def freeL (md : Region.Mode) (ops : Array Oper) (bs : List Nat × List Nat) (listed : Array Bool) (i : Nat) : Bool := freeB md ops bs listed i && bs.2.all fun j => listed.getD j true || (depU md ops listed i).contains j
theorem okU_spec {listed : Array Bool} {i : Nat} {U : List Nat} (h : okU md ops listed i U = true) : ∀ u ∈ U, listed.getD u true = false ∧ ∃ o, ops[u]? = some o ∧ ∃ e ∈ o.after, Region.binds md e = true ∧ (e.on = i ∨ e.on ∈ U) := by
  intro u hu
  simp only [okU, List.all_eq_true] at h
  have h1 := h u hu
  simp only [Bool.and_eq_true, Bool.not_eq_true'] at h1
  refine ⟨h1.1, ?_⟩
  have h2 := h1.2
  cases ho : ops[u]? with
  | none => simp [ho] at h2
  | some o =>
    simp only [ho] at h2
    obtain ⟨e, he, h3⟩ := Array.any_eq_true'.1 h2
    simp only [Bool.and_eq_true, Bool.or_eq_true, beq_iff_eq, List.contains_iff_mem] at h3
    exact ⟨o, rfl, e, he, h3.1, h3.2⟩
def scriptB (md : Region.Mode) (ops : Array Oper) (bs : List Nat × List Nat) : List Nat → Array Bool → (Array Bool → Bool) → Bool
  | [], listed, k => k listed
  | i :: is, listed, k => ((Region.ready md ops listed).contains i && (Region.free md ops listed i && freeB md ops bs listed i)) && scriptB md ops bs is (listed.setIfInBounds i true) k
def scriptL (md : Region.Mode) (ops : Array Oper) (bs : List Nat × List Nat) : List Nat → Array Bool → (Array Bool → Bool) → Bool
  | [], listed, k => k listed
  | i :: is, listed, k => ((Region.ready md ops listed).contains i && (Region.free md ops listed i && freeL md ops bs listed i)) && scriptL md ops bs is (listed.setIfInBounds i true) k
def planB (md : Region.Mode) (ops : Array Oper) (bs : List Nat × List Nat) : Plan → Array Bool → Bool
  | .done is, listed => scriptB md ops bs is listed fun l => (Region.ready md ops l).isEmpty
  | .pre is p, listed => scriptL md ops bs is listed fun l => planB md ops bs p l
  | .one is e p, listed => scriptB md ops bs is listed fun l => (Region.ready md ops l == [e] && (!bs.1.contains e && bs.2.contains e)) && planB md ops bs p (l.setIfInBounds e true)
  | .bar is e p, listed => scriptB md ops bs is listed fun l => (Region.ready md ops l == [e] && bs.1.contains e) && planB md ops bs p (l.setIfInBounds e true)
  | .two is e1 p1 e2 p2, listed => scriptB md ops bs is listed fun l => ((Region.ready md ops l == [e1, e2] && ((!bs.1.contains e1 && bs.2.contains e1) && (!bs.1.contains e2 && bs.2.contains e2))) && planB md ops bs p1 (l.setIfInBounds e1 true)) && planB md ops bs p2 (l.setIfInBounds e2 true)
def barP : Plan → List Nat × List Nat
  | .done _ => ([], [])
  | .pre _ p => barP p
  | .one _ e p => ((barP p).1, e :: (barP p).2)
  | .bar _ e p => (e :: (barP p).1, (barP p).2)
  | .two _ e1 p1 e2 p2 => ((barP p1).1 ++ (barP p2).1, e1 :: e2 :: ((barP p1).2 ++ (barP p2).2))
theorem freeB_spec {bs : List Nat × List Nat} {listed : Array Bool} {i j : Nat} (h : freeB md ops bs listed i = true) (hun : listed.getD j true = false) : bs.1.contains j = false ∨ j ∈ depU md ops listed i := by
  cases hb : bs.1.contains j with
  | false => exact .inl rfl
  | true =>
    simp only [freeB, Bool.and_eq_true, List.all_eq_true] at h
    have := h.2.2 j (by simpa using hb)
    simp only [hun, Bool.false_or, List.contains_iff_mem] at this
    exact .inr this
theorem freeL_spec {bs : List Nat × List Nat} {listed : Array Bool} {i j : Nat} (h : freeL md ops bs listed i = true) (hun : listed.getD j true = false) : bs.2.contains j = false ∨ j ∈ depU md ops listed i := by
  cases hb : bs.2.contains j with
  | false => exact .inl rfl
  | true =>
    simp only [freeL, Bool.and_eq_true, List.all_eq_true] at h
    have := h.2 j (by simpa using hb)
    simp only [hun, Bool.false_or, List.contains_iff_mem] at this
    exact .inr this
def nthL : List Oper → Nat → Option Oper
  | [], _ => none
  | o :: _, 0 => some o
  | _ :: l, k + 1 => nthL l k
theorem nthL_eq : ∀ (l : List Oper) (k : Nat), nthL l k = l[k]?
  | [], _ => rfl
  | _ :: _, 0 => rfl
  | _ :: l, k + 1 => by simpa [nthL] using nthL_eq l k
def noOp : Oper := ⟨none, .assign (.const undef), 0, "", #[], none⟩
def nthD (l : List Oper) (k : Nat) : Oper := (nthL l k).getD noOp
def pickL (l : List Oper) : List Nat → List Oper
  | [] => []
  | i :: is => nthD l i :: pickL l is
def lenP : Plan → Nat
  | .done is => is.length
  | .pre is p => lenP p + is.length
  | .one is _ p => lenP p + 1 + is.length
  | .bar is _ p => lenP p + 1 + is.length
  | .two is _ p1 _ p2 => max (lenP p1) (lenP p2) + 1 + is.length
def topB (ops : Array Oper) (p : Plan) : Bool := Region.noSelect ops && Nat.ble (lenP p) ops.size && planB .any ops (barP p) p (Array.replicate ops.size false)
/-- a phase of quiet operations -/
def wpD (P : Program) (ops : Array Oper) {γ : Type} (C : γ → World → Prop) (K : Act → Prop) : List Oper → Act → Prop
  | [], a => K a
  | o :: rest, a => ∃ v, (∀ g, YieldsIn P ops (C g) o v a) ∧ wpD P ops C K rest (a.put o.dst v)
theorem anyG_nil {bs : List Nat × List Nat} {Q : Act → (World → Prop) → Prop} {listed : Array Bool} {a : Act} {C : World → Prop} (hr : Region.ready md ops listed = []) (h : Q a C) : ∀ fuel, anyG P md ops bs Q fuel Good listed a C
  | 0 => ⟨hr, h⟩
  | _ + 1 => ⟨fun _ => h, fun i hi => by rw [hr] at hi; cases hi⟩
theorem script_sound {bs : List Nat × List Nat} {γ : Type} {D : γ → World → Prop} {g0 : γ} {Q : Act → (World → Prop) → Prop} {K : Act → Prop} {l0 : List Oper} (hs : Region.noSelect l0.toArray = true) (k : Array Bool → Bool) (fuel : Nat)
    (hk : ∀ a, K a → ∀ listed, k listed = true → anyG P md l0.toArray bs Q fuel (fun C => ∃ g, C = D g) listed a (D g0)) : ∀ (is : List Nat) (listed : Array Bool) (a : Act),
    scriptB md l0.toArray bs is listed k = true → wpD P l0.toArray D K (pickL l0 is) a → anyG P md l0.toArray bs Q (fuel + is.length) (fun C => ∃ g, C = D g) listed a (D g0)
  | [], listed, a, hB, h => hk a h listed hB
  | i :: is, listed, a, hB, h => by
    simp only [scriptB, Bool.and_eq_true] at hB
    obtain ⟨⟨hr, hf, hfb⟩, hB'⟩ := hB
    obtain ⟨v, hy, hK⟩ := h
    have hr' : i ∈ Region.ready md l0.toArray listed := by simpa using hr
    obtain ⟨_, o, ho, _⟩ := mem_ready.1 hr'
    have e : nthD l0 i = o := by
      unfold nthD
      rw [nthL_eq]
      simp at ho
      simp [ho]
    rw [e] at hy hK
    have hib : bs.1.contains i = false := by simp only [freeB, Bool.and_eq_true] at hfb; simpa using hfb.1
    have hok : okU md l0.toArray listed i (depU md l0.toArray listed i) = true := by simp only [freeB, Bool.and_eq_true] at hfb; exact hfb.2.1
    exact anyG_first (G2 := fun C => ∃ g, C = D g) ho (Region.noSelect_spec hs) hib _ (fuel + is.length) listed a (D g0) ⟨g0, rfl⟩ ⟨g0, rfl⟩ (okU_spec hok) (fun j oj hj hne hun hno => ⟨Region.free_spec ho hf j oj hj hne hun hno, freeB_spec hfb hun, .inr (.inr fun _ h => h)⟩) hr' (fun C ⟨g, hC⟩ => hC ▸ hy g)
      (script_sound hs k fuel hk is _ _ hB' hK)
theorem script_loc {bs : List Nat × List Nat} {D : World → Prop} {Good : (World → Prop) → Prop} {Q : Act → (World → Prop) → Prop} {K : Act → Prop} {l0 : List Oper} (hs : Region.noSelect l0.toArray = true) (k : Array Bool → Bool) (fuel : Nat) (hG : Good D)
    (hk : ∀ a, K a → ∀ listed, k listed = true → anyG P md l0.toArray bs Q fuel Good listed a D) : ∀ (is : List Nat) (listed : Array Bool) (a : Act),
    scriptL md l0.toArray bs is listed k = true → wpD P l0.toArray (fun _ : List HProp => D) K (pickL l0 is) a → anyG P md l0.toArray bs Q (fuel + is.length) Good listed a D
  | [], listed, a, hB, h => hk a h listed hB
  | i :: is, listed, a, hB, h => by
    simp only [scriptL, Bool.and_eq_true] at hB
    obtain ⟨⟨hr, hf, hfl⟩, hB'⟩ := hB
    have hfb : freeB md l0.toArray bs listed i = true := by simp only [freeL, Bool.and_eq_true] at hfl; exact hfl.1
    obtain ⟨v, hy, hK⟩ := h
    have hr' : i ∈ Region.ready md l0.toArray listed := by simpa using hr
    obtain ⟨_, o, ho, _⟩ := mem_ready.1 hr'
    have e : nthD l0 i = o := by
      unfold nthD
      rw [nthL_eq]
      simp at ho
      simp [ho]
    rw [e] at hy hK
    have hib : bs.1.contains i = false := by simp only [freeB, Bool.and_eq_true] at hfb; simpa using hfb.1
    have hok : okU md l0.toArray listed i (depU md l0.toArray listed i) = true := by simp only [freeB, Bool.and_eq_true] at hfb; exact hfb.2.1
    exact anyG_first (G2 := fun C => C = D) ho (Region.noSelect_spec hs) hib _ (fuel + is.length) listed a D hG rfl (okU_spec hok) (fun j oj hj hne hun hno => ⟨Region.free_spec ho hf j oj hj hne hun hno, freeB_spec hfb hun, (freeL_spec hfl hun).imp id .inl⟩) hr' (fun C hC => hC ▸ hy [])
      (script_loc hs k fuel hG hk is _ _ hB' hK)
end
section
variable {P : Program} {w0 : World} {n : Nat} {l0 : List Oper} {bs : List Nat × List Nat} {Q : Exit → Act → World → Prop} {ρ : Env} {A : List HProp} {Good : (World → Prop) → Prop}
structure WPl (P : Program) (w0 : World) (n : Nat) (l0 : List Oper) (bs : List Nat × List Nat) (Q : Exit → Act → World → Prop) (Good : (World → Prop) → Prop) (p : Plan) (ρ : Env) (A : List HProp) : Prop where
  run : Region.noSelect l0.toArray = true → Good (Own w0 A) ∧ ∀ listed fuel, planB .any l0.toArray bs p listed = true → lenP p ≤ fuel → anyG P .any l0.toArray bs (fun a C => ∀ w, C w → Q .normal a w) fuel Good listed (act n ρ) (Own w0 A)
structure WD (P : Program) (w0 : World) (n : Nat) (ops : Array Oper) (F : List HProp → List HProp) (K : Env → Prop) (l : List Oper) (ρ : Env) : Prop where
  run : wpD P ops (fun g => Own w0 (F g)) (fun a => ∃ ρ', a = act n ρ' ∧ K ρ') l (act n ρ)
/-- the classes of this shape -/
def GoodF (w0 : World) (F : List HProp → List HProp) (C : World → Prop) : Prop := ∃ g, C = Own w0 (F g)
def BrT (P : Program) (w0 : World) (n : Nat) (l0 : List Oper) (bs : List Nat × List Nat) (Q : Exit → Act → World → Prop) (p : Plan) (e : Exit) (a : Act) (w : World) : Prop :=
  e = .normal ∧ ∃ ρ' A' G, a = act n ρ' ∧ Own w0 A' w ∧ WPl P w0 n l0 bs Q G p ρ' A'
def Br (P : Program) (w0 : World) (n : Nat) (l0 : List Oper) (bs : List Nat × List Nat) (Q : Exit → Act → World → Prop) (F : List HProp → List HProp) (p : Plan) (e : Exit) (a : Act) (w : World) : Prop :=
  e = .normal ∧ ∃ ρ' A', a = act n ρ' ∧ Own w0 A' w ∧ WPl P w0 n l0 bs Q (GoodF w0 F) p ρ' A'
theorem own_perm {l l' : List HProp} (h : l.Perm l') : Own w0 l = Own w0 l' := by
  funext w
  exact propext ⟨fun H => H.perm h, fun H => H.perm h.symm⟩
def wantN (n : Nat) (ρ : Env) (l0 : List Oper) (e : Nat) : Bool := match (nthD l0 e).guard with
  | none => true
  | some (g, b) => yieldN n ρ l0.toArray g == some b
theorem wantN_spec {e : Nat} (h : wantN n ρ l0 e = true) : Region.wanted (nthD l0 e) (yielded l0.toArray (act n ρ).tmps) = true := by
  unfold wantN at h
  unfold Region.wanted
  cases hg : (nthD l0 e).guard with
  | none => rfl
  | some gb => simp only [hg] at h ⊢; simp only [act, yielded_arr]; exact h
theorem opG_any {ρ' : Env} {B : List HProp} {e : Nat} {listed : Array Bool} {G : (World → Prop) → Prop} {K : Act → (World → Prop) → Prop} {Qe : Exit → Act → World → Prop} (hL : WL P w0 n l0.toArray Qe [nthD l0 e] ρ' B) (hwn : wantN n ρ' l0 e = true)
    (hn : ∀ e a w, Qe e a w → e = .normal) (fin : ∀ (a' : Act) (w' : World), Qe .normal a' w' → ∃ C', G C' ∧ C' w' ∧ K a' C') (hr : e ∈ Region.ready .any l0.toArray listed) :
    opG P l0.toArray G e K (act n ρ') (Own w0 B) := by
  obtain ⟨_, o, ho, _⟩ := mem_ready.1 hr
  have e1 : nthD l0 e = o := by
    unfold nthD
    rw [nthL_eq]
    simp at ho
    simp [ho]
  have hw := wantN_spec hwn
  rw [e1] at hL hw
  have nol : ¬ LetsOut Qe := by rintro ⟨a, w, h⟩; cases hn _ _ _ h
  unfold opG
  simp only [ho]
  simp only [hw, if_true]
  intro w hO
  have h := hL.run w hO
  unfold wpList at h
  rw [if_pos hw] at h
  rcases h with h | h
  · unfold Oper.wp at *
    generalize (execOp (act n ρ').eval o).run P w = r at *
    cases r with
    | ok nx w' =>
      cases nx <;> simp only [Oper.upon] at h ⊢
      case value u => exact fin _ _ h
      case skip => exact fin _ _ h
      case defer d => exact fin _ _ h
      case enter f args =>
        refine Calls.mono h fun e w'' he => ?_
        cases e with
        | returned u => exact fin _ _ he
        | panicked c => cases hn _ _ _ he
        | outgrown => exact (nol he).elim
      case row row args => exact Rows.mono h fun u w'' he => fin _ _ he
    | halt x w' =>
      cases x <;> simp only [Oper.upon] at h
      case panic u => cases hn _ _ _ h
  · exact (nol h.2).elim
theorem opG_br {ρ' : Env} {F : List HProp → List HProp} {g0 : List HProp} {p : Plan} {e : Nat} {fuel : Nat} {listed : Array Bool} (hs : Region.noSelect l0.toArray = true) (hL : WL P w0 n l0.toArray (Br P w0 n l0 bs Q F p) [nthD l0 e] ρ' (F g0)) (hwn : wantN n ρ' l0 e = true)
    (hr : e ∈ Region.ready .any l0.toArray listed) (hp : planB .any l0.toArray bs p (listed.setIfInBounds e true) = true) (hf : lenP p ≤ fuel) (hes : bs.2.contains e = true) :
    opG P l0.toArray (fun C' => GoodF w0 F C' ∧ (bs.2.contains e = false → C' = Own w0 (F g0))) e (anyG P .any l0.toArray bs (fun a C => ∀ w, C w → Q .normal a w) fuel (GoodF w0 F) (listed.setIfInBounds e true)) (act n ρ') (Own w0 (F g0)) := by
  refine opG_any hL hwn (fun _ _ _ h => h.1) ?_ hr
  rintro a' w' ⟨_, ρ1, A1, rfl, hO, hW⟩
  obtain ⟨h1, h3⟩ := hW.run hs
  exact ⟨_, ⟨h1, fun h => (by rw [hes] at h; cases h)⟩, hO, h3 _ _ hp hf⟩
theorem opG_brT {ρ' : Env} {B : List HProp} {p : Plan} {e : Nat} {fuel : Nat} {listed : Array Bool} (hs : Region.noSelect l0.toArray = true) (hL : WL P w0 n l0.toArray (BrT P w0 n l0 bs Q p) [nthD l0 e] ρ' B) (hwn : wantN n ρ' l0 e = true)
    (hr : e ∈ Region.ready .any l0.toArray listed) (hp : planB .any l0.toArray bs p (listed.setIfInBounds e true) = true) (hf : lenP p ≤ fuel) :
    opG P l0.toArray (fun _ => True) e (fun a C => ∃ G, G C ∧ anyG P .any l0.toArray bs (fun a C => ∀ w, C w → Q .normal a w) fuel G (listed.setIfInBounds e true) a C) (act n ρ') (Own w0 B) := by
  refine opG_any hL hwn (fun _ _ _ h => h.1) ?_ hr
  rintro a' w' ⟨_, ρ1, A1, G, rfl, hO, hW⟩
  obtain ⟨h1, h3⟩ := hW.run hs
  exact ⟨_, trivial, hO, G, h1, h3 _ _ hp hf⟩
theorem wpD_imp {ops : Array Oper} {γ : Type} {C : γ → World → Prop} {K K' : Act → Prop} (hK : ∀ a, K a → K' a) : ∀ (l : List Oper) (a : Act), wpD P ops C K l a → wpD P ops C K' l a
  | [], _, h => hK _ h
  | _ :: l, _, ⟨v, h1, h2⟩ => ⟨v, h1, wpD_imp hK l _ h2⟩
theorem WD.imp {ops : Array Oper} {F : List HProp → List HProp} {K K' : Env → Prop} {l : List Oper} (h : WD P w0 n ops F K l ρ) (hK : ∀ ρ, K ρ → K' ρ) : WD P w0 n ops F K' l ρ :=
  ⟨wpD_imp (fun _ ⟨ρ', h1, h2⟩ => ⟨ρ', h1, hK _ h2⟩) _ _ h.run⟩
theorem WPl.done {is : List Nat} (F : List HProp → List HProp) (g0 : List HProp) (hF : ∀ g, Good (Own w0 (F g))) (hA : Own w0 A = Own w0 (F g0))
    (h : WD P w0 n l0.toArray F (fun ρ' => WX w0 n Q .normal ρ' A) (pickL l0 is) ρ) : WPl P w0 n l0 bs Q Good (.done is) ρ A := by
  have h : WD P w0 n l0.toArray F (fun ρ' => WX w0 n Q .normal ρ' (F g0)) (pickL l0 is) ρ := h.imp fun ρ' h => ⟨fun w hw => h.run w (hA ▸ hw)⟩
  refine ⟨fun hs => ⟨hA ▸ hF g0, fun listed fuel hB hl => ?_⟩⟩
  rw [hA]
  obtain ⟨m, rfl⟩ : ∃ m, fuel = m + is.length := ⟨fuel - is.length, by simp only [lenP] at hl; omega⟩
  have := script_sound (D := fun g => Own w0 (F g)) (g0 := g0) (Q := fun a C => ∀ w, C w → Q .normal a w) hs (fun l => (Region.ready .any l0.toArray l).isEmpty) m (K := fun a => ∃ ρ', a = act n ρ' ∧ WX w0 n Q .normal ρ' (F g0))
    (by rintro a ⟨ρ', rfl, hK⟩ l hl; exact anyG_nil (by simpa using hl) hK.run m) is listed _ hB h.run
  exact Sl.anyG_mono (by rintro C ⟨g, rfl⟩; exact hF g) _ _ _ _ ⟨g0, rfl⟩ this
theorem WPl.one {is : List Nat} {e : Nat} {p : Plan} (F : List HProp → List HProp) (g0 : List HProp) (hF : ∀ g, Good (Own w0 (F g))) (hA : Own w0 A = Own w0 (F g0))
    (h : WD P w0 n l0.toArray F (fun ρ' => wantN n ρ' l0 e = true ∧ WL P w0 n l0.toArray (Br P w0 n l0 bs Q F p) [nthD l0 e] ρ' A) (pickL l0 is) ρ) : WPl P w0 n l0 bs Q Good (.one is e p) ρ A := by
  have h : WD P w0 n l0.toArray F (fun ρ' => wantN n ρ' l0 e = true ∧ WL P w0 n l0.toArray (Br P w0 n l0 bs Q F p) [nthD l0 e] ρ' (F g0)) (pickL l0 is) ρ := h.imp fun ρ' h => ⟨h.1, ⟨fun w hw => h.2.run w (hA ▸ hw)⟩⟩
  refine ⟨fun hs => ⟨hA ▸ hF g0, fun listed fuel hB hl => ?_⟩⟩
  rw [hA]
  obtain ⟨m, rfl⟩ : ∃ m, fuel = (m + 1) + is.length := ⟨fuel - is.length - 1, by simp only [lenP] at hl; omega⟩
  have := script_sound (D := fun g => Own w0 (F g)) (g0 := g0) (Q := fun a C => ∀ w, C w → Q .normal a w) hs (fun l => (Region.ready .any l0.toArray l == [e] && (!bs.1.contains e && bs.2.contains e)) && planB .any l0.toArray bs p (l.setIfInBounds e true)) (m + 1)
    (K := fun a => ∃ ρ', a = act n ρ' ∧ (wantN n ρ' l0 e = true ∧ WL P w0 n l0.toArray (Br P w0 n l0 bs Q F p) [nthD l0 e] ρ' (F g0)))
    (by
      rintro a ⟨ρ', rfl, hwn, hL⟩ l hl2
      simp only [Bool.and_eq_true, beq_iff_eq, Bool.not_eq_true'] at hl2
      refine ⟨fun h0 => (by rw [hl2.1.1] at h0; cases h0), fun i hi => ?_⟩
      have hi' := hi
      rw [hl2.1.1] at hi'
      simp only [List.mem_singleton] at hi'
      subst hi'
      exact ⟨fun _ => opG_br hs hL hwn hi hl2.2 (by simp only [lenP] at hl; omega) hl2.1.2.2, fun h => by rw [hl2.1.2.1] at h; cases h⟩) is listed _ hB h.run
  exact Sl.anyG_mono (by rintro C ⟨g, rfl⟩; exact hF g) _ _ _ _ ⟨g0, rfl⟩ this
theorem WPl.fin {is : List Nat} (hG : Good (Own w0 A)) (h : WD P w0 n l0.toArray (fun _ => A) (fun ρ' => WX w0 n Q .normal ρ' A) (pickL l0 is) ρ) : WPl P w0 n l0 bs Q Good (.done is) ρ A :=
  WPl.done (fun _ => A) [] (fun _ => hG) rfl h
/-- an operation that waits for all that stands before it -/
theorem WPl.bar {is : List Nat} {e : Nat} {p : Plan} (hG : Good (Own w0 A))
    (h : WD P w0 n l0.toArray (fun _ => A) (fun ρ' => wantN n ρ' l0 e = true ∧ WL P w0 n l0.toArray (BrT P w0 n l0 bs Q p) [nthD l0 e] ρ' A) (pickL l0 is) ρ) : WPl P w0 n l0 bs Q Good (.bar is e p) ρ A := by
  refine ⟨fun hs => ⟨hG, fun listed fuel hB hl => ?_⟩⟩
  obtain ⟨m, rfl⟩ : ∃ m, fuel = (m + 1) + is.length := ⟨fuel - is.length - 1, by simp only [lenP] at hl; omega⟩
  have := script_sound (D := fun _ => Own w0 A) (g0 := ([] : List HProp)) (Q := fun a C => ∀ w, C w → Q .normal a w) hs (fun l => (Region.ready .any l0.toArray l == [e] && bs.1.contains e) && planB .any l0.toArray bs p (l.setIfInBounds e true)) (m + 1)
    (K := fun a => ∃ ρ', a = act n ρ' ∧ (wantN n ρ' l0 e = true ∧ WL P w0 n l0.toArray (BrT P w0 n l0 bs Q p) [nthD l0 e] ρ' A))
    (by
      rintro a ⟨ρ', rfl, hwn, hL⟩ l hl2
      simp only [Bool.and_eq_true, beq_iff_eq] at hl2
      refine ⟨fun h0 => (by rw [hl2.1.1] at h0; cases h0), fun i hi => ?_⟩
      have hi' := hi
      rw [hl2.1.1] at hi'
      simp only [List.mem_singleton] at hi'
      subst hi'
      exact ⟨fun h => (by rw [hl2.1.2] at h; cases h), fun _ => opG_brT hs hL hwn hi hl2.2 (by simp only [lenP] at hl; omega)⟩) is listed _ hB h.run
  exact Sl.anyG_mono (by rintro C ⟨g, rfl⟩; exact hG) _ _ _ _ ⟨[], rfl⟩ this
theorem WPl.two {is : List Nat} {e1 e2 : Nat} {p1 p2 : Plan} (F : List HProp → List HProp) (g0 : List HProp) (hF : ∀ g, Good (Own w0 (F g))) (hA : Own w0 A = Own w0 (F g0))
    (h : WD P w0 n l0.toArray F (fun ρ' => (wantN n ρ' l0 e1 = true ∧ WL P w0 n l0.toArray (Br P w0 n l0 bs Q F p1) [nthD l0 e1] ρ' A) ∧ (wantN n ρ' l0 e2 = true ∧ WL P w0 n l0.toArray (Br P w0 n l0 bs Q F p2) [nthD l0 e2] ρ' A)) (pickL l0 is) ρ) : WPl P w0 n l0 bs Q Good (.two is e1 p1 e2 p2) ρ A := by
  have h : WD P w0 n l0.toArray F (fun ρ' => (wantN n ρ' l0 e1 = true ∧ WL P w0 n l0.toArray (Br P w0 n l0 bs Q F p1) [nthD l0 e1] ρ' (F g0)) ∧ (wantN n ρ' l0 e2 = true ∧ WL P w0 n l0.toArray (Br P w0 n l0 bs Q F p2) [nthD l0 e2] ρ' (F g0))) (pickL l0 is) ρ := h.imp fun ρ' h => ⟨⟨h.1.1, ⟨fun w hw => h.1.2.run w (hA ▸ hw)⟩⟩, ⟨h.2.1, ⟨fun w hw => h.2.2.run w (hA ▸ hw)⟩⟩⟩
  refine ⟨fun hs => ⟨hA ▸ hF g0, fun listed fuel hB hl => ?_⟩⟩
  rw [hA]
  obtain ⟨m, rfl⟩ : ∃ m, fuel = (m + 1) + is.length := ⟨fuel - is.length - 1, by simp only [lenP] at hl; omega⟩
  have := script_sound (D := fun g => Own w0 (F g)) (g0 := g0) (Q := fun a C => ∀ w, C w → Q .normal a w) hs (fun l => ((Region.ready .any l0.toArray l == [e1, e2] && ((!bs.1.contains e1 && bs.2.contains e1) && (!bs.1.contains e2 && bs.2.contains e2))) && planB .any l0.toArray bs p1 (l.setIfInBounds e1 true)) && planB .any l0.toArray bs p2 (l.setIfInBounds e2 true)) (m + 1)
    (K := fun a => ∃ ρ', a = act n ρ' ∧ ((wantN n ρ' l0 e1 = true ∧ WL P w0 n l0.toArray (Br P w0 n l0 bs Q F p1) [nthD l0 e1] ρ' (F g0)) ∧ (wantN n ρ' l0 e2 = true ∧ WL P w0 n l0.toArray (Br P w0 n l0 bs Q F p2) [nthD l0 e2] ρ' (F g0))))
    (by
      rintro a ⟨ρ', rfl, ⟨hwn1, hL1⟩, ⟨hwn2, hL2⟩⟩ l hl2
      simp only [Bool.and_eq_true, beq_iff_eq, Bool.not_eq_true'] at hl2
      refine ⟨fun h0 => (by rw [hl2.1.1.1] at h0; cases h0), fun i hi => ?_⟩
      have hi' := hi
      rw [hl2.1.1.1] at hi'
      simp only [List.mem_cons, List.not_mem_nil, or_false] at hi'
      rcases hi' with rfl | rfl
      · exact ⟨fun _ => opG_br hs hL1 hwn1 hi hl2.1.2 (by simp only [lenP] at hl; omega) hl2.1.1.2.1.2, fun h => by rw [hl2.1.1.2.1.1] at h; cases h⟩
      · exact ⟨fun _ => opG_br hs hL2 hwn2 hi hl2.2 (by simp only [lenP] at hl; omega) hl2.1.1.2.2.2, fun h => by rw [hl2.1.1.2.2.1] at h; cases h⟩) is listed _ hB h.run
  exact Sl.anyG_mono (by rintro C ⟨g, rfl⟩; exact hF g) _ _ _ _ ⟨g0, rfl⟩ this
/-- quiet operations ahead of all that turn the world -/
theorem WPl.pre {is : List Nat} {p : Plan} (hG : Good (Own w0 A)) (h : WD P w0 n l0.toArray (fun _ => A) (fun ρ' => WPl P w0 n l0 bs Q Good p ρ' A) (pickL l0 is) ρ) : WPl P w0 n l0 bs Q Good (.pre is p) ρ A := by
  refine ⟨fun hs => ⟨hG, fun listed fuel hB hl => ?_⟩⟩
  obtain ⟨m, rfl⟩ : ∃ m, fuel = m + is.length := ⟨fuel - is.length, by simp only [lenP] at hl; omega⟩
  exact script_loc (D := Own w0 A) (Q := fun a C => ∀ w, C w → Q .normal a w) hs (fun l => planB .any l0.toArray bs p l) m hG (K := fun a => ∃ ρ', a = act n ρ' ∧ WPl P w0 n l0 bs Q Good p ρ' A)
    (by rintro a ⟨ρ', rfl, hK⟩ l hl2; exact (hK.run hs).2 _ _ hl2 (by simp only [lenP] at hl; omega)) is listed _ hB h.run
/-- a region that draws its order, by a plan -/
theorem WC.plan {i : Nat} (p : Plan) (hm : P.follows .mixedOrders = true) (hB : topB l0.toArray p = true) (h : WPl P w0 n l0 (barP p) Q (fun _ => True) p ρ A) : WC P w0 n (.region i l0.toArray true) Q ρ A := by
  refine ⟨fun w hw => ?_⟩
  simp only [topB, Bool.and_eq_true] at hB
  obtain ⟨_, h3⟩ := h.run hB.1.1
  exact wp_region_any hm (wpAny_of_G _ _ _ _ _ _ hw.drew (h3 _ _ hB.2 (by have := hB.1.2; simpa using this)))
theorem WX.br {F : List HProp → List HProp} {p : Plan} (h : WPl P w0 n l0 bs Q (GoodF w0 F) p ρ A) : WX w0 n (Br P w0 n l0 bs Q F p) .normal ρ A := ⟨fun w hw => ⟨rfl, ρ, A, rfl, hw, h⟩⟩
instance (priority := low) Reads.app {G A : List HProp} {base : Option Addr} {vs : List Value} [h : Reads w0 A base vs] : Reads w0 (G ++ A) base vs := ⟨by
  induction G with
  | nil => exact h.rd
  | cons X G ih => exact ih.cons⟩
instance (priority := low) CelAt.app {G A : List HProp} {b : Nat} {vs : List Value} {e : TypeId} [h : CelAt A b vs e] : CelAt (G ++ A) b vs e := ⟨List.mem_append_right _ h.mem⟩
theorem WX.brT {p : Plan} (h : WPl P w0 n l0 bs Q (fun _ => True) p ρ A) : WX w0 n (BrT P w0 n l0 bs Q p) .normal ρ A := ⟨fun w hw => ⟨rfl, ρ, A, _, rfl, hw, h⟩⟩
theorem good_top {C : World → Prop} : (fun _ : World → Prop => True) C := trivial
theorem good_same (F : List HProp → List HProp) (g : List HProp) : GoodF w0 F (Own w0 (F g)) := ⟨g, rfl⟩
theorem good_perm {F : List HProp → List HProp} {l : List HProp} (g : List HProp) (h : l.Perm (F g)) : GoodF w0 F (Own w0 l) := ⟨g, own_perm h⟩
section
variable {ops : Array Oper} {F : List HProp → List HProp} {K : Env → Prop} {rest : List Oper} {d : Nat} {op : Op} {T : TypeId} {pos : String} {af : Array Edge} {v : Value} {gg : Nat} {b : Bool}
theorem WD.nil (h : K ρ) : WD P w0 n ops F K [] ρ := ⟨⟨ρ, rfl, h⟩⟩
theorem WD.eff {n : Nat} {l0 : List Oper} {e : Nat} {Qb : Exit → Act → World → Prop} {A : List HProp} (hw : wantN n ρ l0 e = true) (h : WL P w0 n l0.toArray Qb [nthD l0 e] ρ A) :
    WD P w0 n ops F (fun ρ' => wantN n ρ' l0 e = true ∧ WL P w0 n l0.toArray Qb [nthD l0 e] ρ' A) [] ρ := WD.nil ⟨hw, h⟩
theorem WD.eff2 {n : Nat} {l0 : List Oper} {e1 e2 : Nat} {Q1 Q2 : Exit → Act → World → Prop} {A : List HProp} (hw1 : wantN n ρ l0 e1 = true) (hw2 : wantN n ρ l0 e2 = true) (h1 : WL P w0 n l0.toArray Q1 [nthD l0 e1] ρ A) (h2 : WL P w0 n l0.toArray Q2 [nthD l0 e2] ρ A) :
    WD P w0 n ops F (fun ρ' => (wantN n ρ' l0 e1 = true ∧ WL P w0 n l0.toArray Q1 [nthD l0 e1] ρ' A) ∧ (wantN n ρ' l0 e2 = true ∧ WL P w0 n l0.toArray Q2 [nthD l0 e2] ρ' A)) [] ρ := WD.nil ⟨⟨hw1, h1⟩, ⟨hw2, h2⟩⟩
theorem quietAt_val {o : Oper} {A : List HProp} (hv : Val P w0 n ρ A o v) : ∀ w, Own w0 A w → o.quietAt P (act n ρ) (Own w0 A) w v := fun w hw => by
  unfold Oper.quietAt; rw [eval_act, hv w hw]; exact ⟨rfl, rfl⟩
theorem dv (hv : ∀ g, Val P w0 n ρ (F g) ⟨some d, op, T, pos, af, none⟩ v) (h : WD P w0 n ops F K rest (set ρ d v)) : WD P w0 n ops F K (⟨some d, op, T, pos, af, none⟩ :: rest) ρ :=
  ⟨⟨v, fun g => .inl ⟨by simp [Region.wanted], quietAt_val (hv g)⟩, by rw [put_act]; exact h.run⟩⟩
theorem dvg (hg : yieldN n ρ ops gg = some b) (hv : ∀ g, Val P w0 n ρ (F g) ⟨some d, op, T, pos, af, some (gg, b)⟩ v) (h : WD P w0 n ops F K rest (set ρ d v)) : WD P w0 n ops F K (⟨some d, op, T, pos, af, some (gg, b)⟩ :: rest) ρ :=
  ⟨⟨v, fun g => .inl ⟨by simp only [Region.wanted, act, yielded_arr, hg, beq_self_eq_true], quietAt_val (hv g)⟩, by rw [put_act]; exact h.run⟩⟩
theorem dng (hg : (yieldN n ρ ops gg == some b) = false) (h : WD P w0 n ops F K rest (set ρ d undef)) : WD P w0 n ops F K (⟨some d, op, T, pos, af, some (gg, b)⟩ :: rest) ρ :=
  ⟨⟨undef, fun g => .inr ⟨by simp only [Region.wanted, act, yielded_arr, hg], rfl⟩, by rw [put_act]; exact h.run⟩⟩
theorem dng0 (hg : (yieldN n ρ ops gg == some b) = false) (h : WD P w0 n ops F K rest ρ) : WD P w0 n ops F K (⟨none, op, T, pos, af, some (gg, b)⟩ :: rest) ρ :=
  ⟨⟨undef, fun g => .inr ⟨by simp only [Region.wanted, act, yielded_arr, hg], rfl⟩, by rw [put_act_none]; exact h.run⟩⟩
theorem dcl {k : Nat} {f : FuncId} {aops : List Operand} {args : List Value} {tys : Array TypeId} (hs : ∀ g, Quiet P w0 f args (F g) v) (hc : callT P f = true) (ha : evs n ρ aops = args)
    (h : WD P w0 n ops F K rest (set ρ k v)) : WD P w0 n ops F K (⟨some k, .call ⟨.value (.func f), aops.toArray, tys⟩, T, pos, af, none⟩ :: rest) ρ :=
  ⟨⟨v, fun g => .inl ⟨by simp [Region.wanted], fun w hw => by unfold Oper.quietAt; rw [eval_act, run_call hc ha]; exact ⟨rfl, (hs g).run w hw⟩⟩, by rw [put_act]; exact h.run⟩⟩
theorem dclg {k : Nat} {f : FuncId} {aops : List Operand} {args : List Value} {tys : Array TypeId} (hg : yieldN n ρ ops gg = some b) (hs : ∀ g, Quiet P w0 f args (F g) v) (hc : callT P f = true) (ha : evs n ρ aops = args)
    (h : WD P w0 n ops F K rest (set ρ k v)) : WD P w0 n ops F K (⟨some k, .call ⟨.value (.func f), aops.toArray, tys⟩, T, pos, af, some (gg, b)⟩ :: rest) ρ :=
  ⟨⟨v, fun g => .inl ⟨by simp only [Region.wanted, act, yielded_arr, hg, beq_self_eq_true], fun w hw => by unfold Oper.quietAt; rw [eval_act, run_call hc ha]; exact ⟨rfl, (hs g).run w hw⟩⟩, by rw [put_act]; exact h.run⟩⟩
theorem dvs {p : Prop} [Decidable p] (hv : ∀ g, Val P w0 n ρ (F g) ⟨some d, op, T, pos, af, none⟩ (.bool (decide p))) (ht : p → WD P w0 n ops F K rest (set ρ d (.bool true))) (hf : ¬ p → WD P w0 n ops F K rest (set ρ d (.bool false))) :
    WD P w0 n ops F K (⟨some d, op, T, pos, af, none⟩ :: rest) ρ := by
  by_cases h : p
  · exact dv hv (by simpa [h] using ht h)
  · exact dv hv (by simpa [h] using hf h)
theorem dvsg {p : Prop} [Decidable p] (hg : yieldN n ρ ops gg = some b) (hv : ∀ g, Val P w0 n ρ (F g) ⟨some d, op, T, pos, af, some (gg, b)⟩ (.bool (decide p))) (ht : p → WD P w0 n ops F K rest (set ρ d (.bool true))) (hf : ¬ p → WD P w0 n ops F K rest (set ρ d (.bool false))) :
    WD P w0 n ops F K (⟨some d, op, T, pos, af, some (gg, b)⟩ :: rest) ρ := by
  by_cases h : p
  · exact dvg hg hv (by simpa [h] using ht h)
  · exact dvg hg hv (by simpa [h] using hf h)
theorem dvb {p : Bool} (hv : ∀ g, Val P w0 n ρ (F g) ⟨some d, op, T, pos, af, none⟩ (.bool p)) (ht : p = true → WD P w0 n ops F K rest (set ρ d (.bool true))) (hf : p = false → WD P w0 n ops F K rest (set ρ d (.bool false))) :
    WD P w0 n ops F K (⟨some d, op, T, pos, af, none⟩ :: rest) ρ := by
  cases p
  · exact dv hv (hf rfl)
  · exact dv hv (ht rfl)
theorem dvbg {p : Bool} (hg : yieldN n ρ ops gg = some b) (hv : ∀ g, Val P w0 n ρ (F g) ⟨some d, op, T, pos, af, some (gg, b)⟩ (.bool p)) (ht : p = true → WD P w0 n ops F K rest (set ρ d (.bool true))) (hf : p = false → WD P w0 n ops F K rest (set ρ d (.bool false))) :
    WD P w0 n ops F K (⟨some d, op, T, pos, af, some (gg, b)⟩ :: rest) ρ := by
  cases p
  · exact dvg hg hv (hf rfl)
  · exact dvg hg hv (ht rfl)
end
end
end Go.Sl
