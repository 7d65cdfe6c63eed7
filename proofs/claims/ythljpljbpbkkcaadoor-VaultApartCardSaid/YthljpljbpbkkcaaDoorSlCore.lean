/-
  The heap logic used by the proofs of this claim: environments of temporaries, heap chunks, the judgements WL (a region's operations), WC (code), WX (an exit), and their structural rules. Plain theorems over any program.
-/
import Derived.WalkKit
import Derived.Deep.Quiet
import Derived.KernelRfl
set_option linter.unusedVariables false
set_option linter.unusedSimpArgs false
namespace Go.Sl
open Go.RowKit

/-! ### Temporaries -/
abbrev Env := Nat → Value
def set (ρ : Env) (k : Nat) (v : Value) : Env := fun t => bif Nat.beq t k then v else ρ t
def arr (n : Nat) (ρ : Env) : Array Value := Array.ofFn (fun i : Fin n => ρ i)
def act (n : Nat) (ρ : Env) : Act := ⟨arr n ρ, []⟩
def ev (n : Nat) (ρ : Env) : Operand → Value
  | .tmp t => bif Nat.blt t n then ρ t else undef
  | .const v => v
  | .global g => .pointer (some ⟨g, 0, none⟩)
  | .func f => .func (.func f) #[] #[]
def evs (n : Nat) (ρ : Env) : List Operand → List Value
  | [] => []
  | x :: l => ev n ρ x :: evs n ρ l
def argE : List Value → Env
  | [], _ => undef
  | v :: _, 0 => v
  | _ :: l, t + 1 => argE l t
def setL : List (Nat × Value) → Env → Env
  | [], ρ => ρ
  | (k, v) :: L, ρ => set (setL L ρ) k v
def AllC : List (Nat × Value) → Env → Prop
  | [], _ => True
  | (k, v) :: L, ρ => ρ k = v ∧ AllC L ρ
theorem arr_get? (n : Nat) (ρ : Env) (t : Nat) : (arr n ρ)[t]? = if t < n then some (ρ t) else none := by
  unfold arr
  rw [Array.getElem?_ofFn]
  split <;> simp
theorem eval_act (n : Nat) (ρ : Env) : (act n ρ).eval = ev n ρ := by
  funext x
  cases x with
  | tmp t =>
    show (arr n ρ).getD t undef = bif Nat.blt t n then ρ t else undef
    rw [Array.getD_eq_getD_getElem?, arr_get?]
    by_cases h : t < n
    · have : Nat.blt t n = true := by rw [Nat.blt_eq]; exact h
      simp [h, this]
    · have : Nat.blt t n = false := by
        rw [Bool.eq_false_iff]; intro h'; apply h; rwa [Nat.blt_eq] at h'
      simp [h, this]
  | const v => rfl
  | global g => rfl
  | func f => rfl
theorem arr_set (n : Nat) (ρ : Env) (d : Nat) (v : Value) : (arr n ρ).setIfInBounds d v = arr n (set ρ d v) := by
  apply Array.ext_getElem?
  intro t
  rw [Array.getElem?_setIfInBounds, arr_get?, arr_get?]
  by_cases hd : d = t
  · subst hd
    have : (arr n ρ).size = n := by simp [arr]
    by_cases h : d < n <;> simp [h, this, set]
  · have hne : ¬ t = d := fun h => hd h.symm
    have hb : Nat.beq t d = false := by cases hb : Nat.beq t d with
      | false => rfl
      | true => exact absurd (Nat.eq_of_beq_eq_true hb) hne
    by_cases h : t < n <;> simp [h, hd, set, hb]
theorem put_act (n : Nat) (ρ : Env) (d : Nat) (v : Value) : (act n ρ).put (some d) v = act n (set ρ d v) := by
  simp only [act, Act.put, arr_set]
theorem put_act_none (n : Nat) (ρ : Env) (v : Value) : (act n ρ).put none v = act n ρ := rfl
theorem args_arr (l : List Value) (n : Nat) (h : l.length ≤ n) : l.toArray ++ Array.replicate (n - l.toArray.size) undef = arr n (argE l) := by
  have hg : ∀ (l : List Value) (t : Nat), argE l t = (l[t]?).getD undef := by
    intro l
    induction l with
    | nil => intro t; rfl
    | cons v l ih =>
      intro t
      cases t with
      | zero => rfl
      | succ t => simpa [argE] using ih t
  apply Array.ext_getElem?
  intro t
  rw [arr_get?, Array.getElem?_append]
  simp only [List.size_toArray, List.getElem?_toArray, hg]
  by_cases h1 : t < l.length
  · have h2 : t < n := by omega
    simp [h1, h2]
  · by_cases h2 : t < n
    · have : t - l.length < n - l.length := by omega
      have h3 : l[t]? = none := by simp; omega
      simp [h1, h2, h3, Array.getElem?_replicate, this]
    · have : ¬ t - l.length < n - l.length := by omega
      simp [h1, h2, Array.getElem?_replicate, this]
/-! ### Heap chunks -/
abbrev PHeap := Nat → Option Obj
abbrev HProp := PHeap → Prop
def emp : HProp := fun h => ∀ b, h b = none
def pt (b : Nat) (o : Obj) : HProp := fun h => ∀ b', h b' = if b' = b then some o else none
def star (A B : HProp) : HProp := fun h => ∃ h1 h2 : PHeap, A h1 ∧ B h2 ∧ (∀ b, h1 b = none ∨ h2 b = none) ∧ ∀ b, h b = (h1 b).or (h2 b)
def fact (p : Prop) : HProp := fun h => p ∧ emp h
def ex {α : Type} (A : α → HProp) : HProp := fun h => ∃ x, A x h
def seps : List HProp → HProp
  | [] => emp
  | A :: l => star A (seps l)
/-- The world w is w0 below w0's size, and bears these chunks from there on. -/
def Own (w0 : World) (l : List HProp) (w : World) : Prop :=
  Below w0.heap.size w0 w ∧ ∃ h : PHeap, seps l h ∧ ∀ b o, h b = some o → w0.heap.size ≤ b ∧ w.heap[b]? = some o

section
variable {w0 w : World} {A B C D E F G : HProp} {l l' R : List HProp}
theorem star_comm {h : PHeap} (H : star A B h) : star B A h := by
  obtain ⟨h1, h2, a, b, d, e⟩ := H
  refine ⟨h2, h1, b, a, fun x => (d x).symm, fun x => ?_⟩
  rw [e x]
  rcases d x with hx | hx <;> simp [hx]
theorem star_assoc {h : PHeap} (H : star (star A B) C h) : star A (star B C) h := by
  obtain ⟨h12, h3, ⟨h1, h2, a, b, d, e⟩, c, d', e'⟩ := H
  have hx : ∀ x, (h1 x = none ∨ h3 x = none) ∧ (h2 x = none ∨ h3 x = none) := by
    intro x
    have := d' x
    rw [e x] at this
    rcases this with h | h
    · rw [Option.or_eq_none_iff] at h
      exact ⟨.inl h.1, .inl h.2⟩
    · exact ⟨.inr h, .inr h⟩
  refine ⟨h1, fun x => (h2 x).or (h3 x), a, ⟨h2, h3, b, c, fun x => (hx x).2, fun _ => rfl⟩, fun x => ?_, fun x => ?_⟩
  · rcases d x with h | h
    · exact .inl h
    · rcases (hx x).1 with h' | h'
      · exact .inl h'
      · right; show (h2 x).or (h3 x) = none; rw [h, h']; rfl
  · rw [e' x, e x, Option.or_assoc]
theorem star_assoc' {h : PHeap} (H : star A (star B C) h) : star (star A B) C h :=
  star_comm (star_assoc (star_comm (star_assoc (star_comm H))))
theorem star_mono {h : PHeap} (H : star A B h) (f : ∀ h, A h → C h) (g : ∀ h, B h → D h) : star C D h := by
  obtain ⟨h1, h2, a, b, d, e⟩ := H
  exact ⟨h1, h2, f _ a, g _ b, d, e⟩
theorem seps_perm (hp : l.Perm l') : ∀ h, seps l h → seps l' h := by
  induction hp with
  | nil => exact fun _ h => h
  | cons x _ ih => exact fun h H => star_mono H (fun _ h => h) ih
  | swap x y l => exact fun h H => star_assoc (star_mono (star_assoc' H) (fun _ => star_comm) (fun _ h => h))
  | trans _ _ i1 i2 => exact fun h H => i2 h (i1 h H)
theorem Own.perm (H : Own w0 l w) (hp : l.Perm l') : Own w0 l' w :=
  ⟨H.1, let ⟨h, a, b⟩ := H.2; ⟨h, seps_perm hp h a, b⟩⟩
theorem Own.imp (H : Own w0 l w) (f : ∀ h, seps l h → seps l' h) : Own w0 l' w :=
  ⟨H.1, let ⟨h, a, b⟩ := H.2; ⟨h, f h a, b⟩⟩
theorem Own.head (H : Own w0 (A :: l) w) (f : ∀ h, A h → B h) : Own w0 (B :: l) w :=
  H.imp fun _ h => star_mono h f (fun _ h => h)
theorem Own.tail (H : Own w0 (A :: l) w) : Own w0 l w := by
  obtain ⟨hb, h, ⟨h1, h2, _, a2, d, e⟩, hw⟩ := H
  refine ⟨hb, h2, a2, fun b o ho => hw b o ?_⟩
  rw [e b]
  rcases d b with h' | h'
  · rw [h', ho]; rfl
  · rw [h'] at ho; cases ho
theorem Own.pk1 (H : Own w0 (A :: B :: R) w) : Own w0 (B :: A :: R) w := H.perm (.swap _ _ _)
theorem Own.pk2 (H : Own w0 (A :: B :: C :: R) w) : Own w0 (C :: A :: B :: R) w := H.perm ((List.Perm.swap _ _ _).cons _ |>.trans (.swap _ _ _))
theorem perm_pk (l : List HProp) (x : HProp) (R : List HProp) : (l ++ x :: R).Perm (x :: (l ++ R)) := List.perm_middle
theorem Own.pk3 (H : Own w0 (A :: B :: C :: D :: R) w) : Own w0 (D :: A :: B :: C :: R) w := H.perm (perm_pk [A, B, C] D R)
theorem Own.pk4 (H : Own w0 (A :: B :: C :: D :: E :: R) w) : Own w0 (E :: A :: B :: C :: D :: R) w := H.perm (perm_pk [A, B, C, D] E R)
theorem Own.pk5 (H : Own w0 (A :: B :: C :: D :: E :: F :: R) w) : Own w0 (F :: A :: B :: C :: D :: E :: R) w := H.perm (perm_pk [A, B, C, D, E] F R)
theorem Own.pk6 (H : Own w0 (A :: B :: C :: D :: E :: F :: G :: R) w) : Own w0 (G :: A :: B :: C :: D :: E :: F :: R) w := H.perm (perm_pk [A, B, C, D, E, F] G R)
theorem Own.below (H : Own w0 l w) : Below w0.heap.size w0 w := H.1
theorem Own.size (H : Own w0 l w) : w0.heap.size ≤ w.heap.size := H.1.size
theorem Own.drewN (H : Own w0 l w) (n : Nat) : Own w0 l (w.drewN n) :=
  ⟨⟨H.1.os, H.1.tape, H.1.output, H.1.size, H.1.block⟩, H.2⟩
theorem Own.drew (H : Own w0 l w) : Own w0 l { w with drawn := w.drawn + 1 } :=
  ⟨⟨H.1.os, H.1.tape, H.1.output, H.1.size, H.1.block⟩, H.2⟩
theorem Own.start (w : World) : Own w [] w := ⟨Below.refl _ _, fun _ => none, fun _ => rfl, fun _ _ h => by cases h⟩
/-- A block that is borne reads so. -/
theorem Own.heap {b : Nat} {o : Obj} (H : Own w0 (pt b o :: l) w) : w.heap[b]? = some o ∧ w0.heap.size ≤ b := by
  obtain ⟨_, h, ⟨h1, h2, a1, _, _, e⟩, hw⟩ := H
  have : h b = some o := by rw [e b, a1 b]; simp
  exact ⟨(hw b o this).2, (hw b o this).1⟩
theorem Own.mem (H : Own w0 l w) (hm : A ∈ l) : ∃ R, Own w0 (A :: R) w := by
  obtain ⟨s, t, rfl⟩ := List.append_of_mem hm
  exact ⟨s ++ t, H.perm List.perm_middle⟩
theorem Own.at_ {b : Nat} {o : Obj} (H : Own w0 l w) (hm : pt b o ∈ l) : w.heap[b]? = some o ∧ w0.heap.size ≤ b := by
  obtain ⟨R, h⟩ := H.mem hm
  exact h.heap
theorem Own.intro_star (H : Own w0 (A :: B :: l) w) : Own w0 (star A B :: l) w := H.imp fun _ h => star_assoc' h
theorem Own.star (H : Own w0 (star A B :: l) w) : Own w0 (A :: B :: l) w := H.imp fun _ h => star_assoc h
theorem Own.fact {p : Prop} (H : Own w0 (fact p :: l) w) : p ∧ Own w0 l w := by
  refine ⟨?_, H.tail⟩
  obtain ⟨_, h, ⟨h1, h2, a, _⟩, _⟩ := H
  exact a.1
theorem Own.intro_emp (H : Own w0 l w) : Own w0 (emp :: l) w := by
  refine H.imp fun h a => ⟨fun _ => none, h, fun _ => rfl, a, fun _ => .inl rfl, fun b => by simp⟩
theorem Own.intro_fact {p : Prop} (hp : p) (H : Own w0 l w) : Own w0 (Sl.fact p :: l) w := H.intro_emp.head fun _ h => ⟨hp, h⟩
theorem Own.ex {α : Type} {X : α → HProp} (H : Own w0 (ex X :: l) w) : ∃ x, Own w0 (X x :: l) w := by
  obtain ⟨hb, h, ⟨h1, h2, ⟨x, a⟩, a2, d, e⟩, hw⟩ := H
  exact ⟨x, hb, h, ⟨h1, h2, a, a2, d, e⟩, hw⟩
theorem Own.intro_ex {α : Type} {X : α → HProp} (x : α) (H : Own w0 (X x :: l) w) : Own w0 (Sl.ex X :: l) w := H.head fun _ h => ⟨x, h⟩
/-- A new block. -/
theorem Own.alloc (H : Own w0 l w) (o : Obj) : Own w0 (pt w.heap.size o :: l) (w.alloc o) := by
  obtain ⟨hb, h, a, hw⟩ := H
  refine ⟨hb.alloc hb.size o, fun b => if b = w.heap.size then some o else h b, ⟨fun b => if b = w.heap.size then some o else none, h, fun b => rfl, a, fun b => ?_, fun b => ?_⟩, fun b o' ho => ?_⟩
  · by_cases hs : b = w.heap.size
    · right
      cases hh : h b with
      | none => rfl
      | some x => have := (hw b x hh).2; rw [hs] at this; simp at this
    · left; simp [hs]
  · by_cases hs : b = w.heap.size <;> simp [hs]
  · by_cases hs : b = w.heap.size
    · subst hs
      simp at ho
      subst ho
      exact ⟨hb.size, heap_alloc_new w _⟩
    · simp [hs] at ho
      have := hw b o' ho
      have hlt : b < w.heap.size := (Array.getElem?_eq_some_iff.1 this.2).1
      exact ⟨this.1, by rw [heap_alloc_old w o hlt]; exact this.2⟩
/-- A block that is borne is turned. -/
theorem Own.turn {b : Nat} {o o' : Obj} {w' : World} (H : Own w0 (pt b o :: l) w) (hos : w'.os = w.os) (ht : w'.tape = w.tape) (ho : w'.output = w.output) (hs : w'.heap.size = w.heap.size)
    (hb : w'.heap[b]? = some o') (hne : ∀ k, k ≠ b → w'.heap[k]? = w.heap[k]?) : Own w0 (pt b o' :: l) w' := by
  have hB := H.heap.2
  obtain ⟨hbl, h, ⟨h1, h2, a1, a2, d, e⟩, hw⟩ := H
  refine ⟨hbl.trans ⟨hos, ht, ho, by omega, fun k hk => hne k (by omega)⟩, fun x => if x = b then some o' else h2 x, ⟨fun x => if x = b then some o' else none, h2, fun _ => rfl, a2, fun x => ?_, fun x => ?_⟩, fun x o1 hx => ?_⟩
  · have := d x
    rw [a1 x] at this
    by_cases hxb : x = b
    · simpa [hxb] using this
    · left; simp [hxb]
  · by_cases hxb : x = b <;> simp [hxb]
  · by_cases hxb : x = b
    · subst hxb
      simp at hx
      subst hx
      exact ⟨hB, hb⟩
    · simp [hxb] at hx
      rw [hne x hxb]
      refine hw x o1 ?_
      rw [e x, a1 x]
      simp [hxb, hx]
/-- Blocks that are borne apart are unlike. -/
theorem Own.ne {b b' : Nat} {o o' : Obj} (H : Own w0 (pt b o :: pt b' o' :: l) w) : b ≠ b' := by
  rintro rfl
  obtain ⟨_, h, ⟨h1, h2, a1, ⟨h3, h4, a3, _, _, e3⟩, d, _⟩, _⟩ := H
  have := d b
  rw [a1 b, e3 b, a3 b] at this
  simp at this
end

/-! ### Judgements -/
section
variable {P : Program} {w0 : World} {n : Nat} {ops : Array Oper} {Q Q' : Exit → Act → World → Prop} {ρ : Env} {A A' : List HProp} {x y c : Code} {l rest : List Oper}
structure WL (P : Program) (w0 : World) (n : Nat) (ops : Array Oper) (Q : Exit → Act → World → Prop) (l : List Oper) (ρ : Env) (A : List HProp) : Prop where
  run : ∀ w, Own w0 A w → wpList P ops Q l (act n ρ) w
structure WC (P : Program) (w0 : World) (n : Nat) (c : Code) (Q : Exit → Act → World → Prop) (ρ : Env) (A : List HProp) : Prop where
  run : ∀ w, Own w0 A w → c.wp P Q (act n ρ) w
structure WX (w0 : World) (n : Nat) (Q : Exit → Act → World → Prop) (e : Exit) (ρ : Env) (A : List HProp) : Prop where
  run : ∀ w, Own w0 A w → Q e (act n ρ) w
/-- The lexical walk of a region that draws its order, each operation quiet. -/
structure WQ (P : Program) (w0 : World) (n : Nat) (ops : Array Oper) (Q : Exit → Act → World → Prop) (l : List Oper) (ρ : Env) (A : List HProp) : Prop where
  run : wpQuiet P ops (Own w0 A) (fun a => ∀ w, Own w0 A w → Q .normal a w) l (act n ρ)

theorem WC.perm (h : WC P w0 n c Q ρ A') (hA : ∀ w, Own w0 A w → Own w0 A' w) : WC P w0 n c Q ρ A := ⟨fun w hw => h.run w (hA w hw)⟩
theorem WL.perm (h : WL P w0 n ops Q l ρ A') (hA : ∀ w, Own w0 A w → Own w0 A' w) : WL P w0 n ops Q l ρ A := ⟨fun w hw => h.run w (hA w hw)⟩
theorem WX.perm {e : Exit} (h : WX w0 n Q e ρ A') (hA : ∀ w, Own w0 A w → Own w0 A' w) : WX w0 n Q e ρ A := ⟨fun w hw => h.run w (hA w hw)⟩
theorem WC.seq (h : WC P w0 n x (Exit.then (y.wp P Q) Q) ρ A) : WC P w0 n (.seq x y) Q ρ A := ⟨fun w hw => wp_seq (h.run w hw)⟩
theorem WC.skip (h : WX w0 n Q .normal ρ A) : WC P w0 n .skip Q ρ A := ⟨fun w hw => wp_skip (h.run w hw)⟩
theorem WC.ret (h : WX w0 n Q .ret ρ A) : WC P w0 n .ret Q ρ A := ⟨fun w hw => wp_ret (h.run w hw)⟩
theorem WC.exit {i : Nat} (h : WX w0 n Q (.exit i) ρ A) : WC P w0 n (.exit i) Q ρ A := ⟨fun w hw => wp_exit (h.run w hw)⟩
theorem WC.block {i : Nat} (h : WC P w0 n c (Exit.inBlock i Q) ρ A) : WC P w0 n (.block i c) Q ρ A := ⟨fun w hw => wp_block (h.run w hw)⟩
theorem WC.region {i : Nat} (h : WL P w0 n l.toArray Q l ρ A) : WC P w0 n (.region i l.toArray false) Q ρ A := ⟨fun w hw => wp_region_lit (h.run w hw)⟩
theorem WC.draws {i : Nat} (hm : P.follows .mixedOrders = true) (hB : Region.lexB .any l.toArray = true) (h : WQ P w0 n l.toArray Q l ρ A) : WC P w0 n (.region i l.toArray true) Q ρ A :=
  ⟨fun w hw => wp_region_quiet (C := Own w0 A) hm hB hw.drew h.run⟩
theorem WL.nil (h : WX w0 n Q .normal ρ A) : WL P w0 n ops Q [] ρ A := ⟨fun w hw => wpList_nil (h.run w hw)⟩
theorem WQ.nil (h : WX w0 n Q .normal ρ A) : WQ P w0 n ops Q [] ρ A := ⟨wpQuiet_nil h.run⟩
/-- exits through what stands around -/
theorem WX.thenN (h : WC P w0 n y Q' ρ A) : WX w0 n (Exit.then (y.wp P Q') Q) .normal ρ A := ⟨h.run⟩
theorem WX.thenR {K : Act → World → Prop} (h : WX w0 n Q .ret ρ A) : WX w0 n (Exit.then K Q) .ret ρ A := ⟨h.run⟩
theorem WX.thenE {K : Act → World → Prop} {i : Nat} (h : WX w0 n Q (.exit i) ρ A) : WX w0 n (Exit.then K Q) (.exit i) ρ A := ⟨h.run⟩
theorem WX.blockN {i : Nat} (h : WX w0 n Q .normal ρ A) : WX w0 n (Exit.inBlock i Q) .normal ρ A := ⟨h.run⟩
theorem WX.blockR {i : Nat} (h : WX w0 n Q .ret ρ A) : WX w0 n (Exit.inBlock i Q) .ret ρ A := ⟨h.run⟩
theorem WX.blockE {i j : Nat} (hne : (i == j) = false) (h : WX w0 n Q (.exit i) ρ A) : WX w0 n (Exit.inBlock j Q) (.exit i) ρ A := ⟨fun w hw => by
  have : ¬ i = j := by simpa using hne
  simp only [Exit.inBlock, if_neg this]
  exact h.run w hw⟩
theorem WX.blockH {i : Nat} (h : WX w0 n Q .normal ρ A) : WX w0 n (Exit.inBlock i Q) (.exit i) ρ A := ⟨fun w hw => by
  simp only [Exit.inBlock, if_true]
  exact h.run w hw⟩
/-- tests -/
theorem WC.ite {p : Prop} [Decidable p] {o : Operand} (hc : ev n ρ o = .bool (decide p)) (ht : p → WC P w0 n x Q ρ A) (hf : ¬ p → WC P w0 n y Q ρ A) : WC P w0 n (.cond o x y) Q ρ A := ⟨fun w hw =>
  wp_cond_split (t := decide p) (by rw [eval_act]; exact hc) (fun h => (ht (by simpa using h)).run w hw) (fun h => (hf (by simpa using h)).run w hw)⟩
theorem WC.iteb {b : Bool} {o : Operand} (hc : ev n ρ o = .bool b) (ht : b = true → WC P w0 n x Q ρ A) (hf : b = false → WC P w0 n y Q ρ A) : WC P w0 n (.cond o x y) Q ρ A := ⟨fun w hw =>
  wp_cond_split (t := b) (by rw [eval_act]; exact hc) (fun h => (ht h).run w hw) (fun h => (hf h).run w hw)⟩
theorem WC.tt {o : Operand} (hc : ev n ρ o = .bool true) (h : WC P w0 n x Q ρ A) : WC P w0 n (.cond o x y) Q ρ A := ⟨fun w hw =>
  wp_cond_true (by rw [eval_act]; exact hc) (h.run w hw)⟩
theorem WC.ff {o : Operand} (hc : ev n ρ o = .bool false) (h : WC P w0 n y Q ρ A) : WC P w0 n (.cond o x y) Q ρ A := ⟨fun w hw =>
  wp_cond_false (by rw [eval_act]; exact hc) (h.run w hw)⟩

/-! ### Cuts and loops -/
/-- The frame bears these values (C i, and those of V), the world these chunks; for some i. -/
def Mid (w0 : World) (n : Nat) {ι : Type} (C : ι → List (Nat × Value)) (V : List (Nat × Value)) (A' : ι → List HProp) (R : ι → Prop) (a : Act) (w : World) : Prop :=
  ∃ i, R i ∧ ∃ ρ', a = act n ρ' ∧ AllC (C i) ρ' ∧ AllC V ρ' ∧ Own w0 (A' i) w
theorem set_self {C : List (Nat × Value)} {ρ : Env} (h : AllC C ρ) : ρ = setL C ρ := by
  induction C with
  | nil => rfl
  | cons kv L ih =>
    obtain ⟨k, v⟩ := kv
    obtain ⟨h1, h2⟩ := h
    have := ih h2
    funext t
    simp only [setL, set]
    cases ht : Nat.beq t k with
    | true => simp only [cond_true]; have := Nat.eq_of_beq_eq_true ht; subst this; exact h1
    | false => simp only [cond_false]; rw [← this]
theorem Mid.use {ι : Type} {C : ι → List (Nat × Value)} {V : List (Nat × Value)} {B : ι → List HProp} {R : ι → Prop} {a : Act} {w : World} (h : Mid w0 n C V B R a w) :
    ∃ i, R i ∧ ∃ ρh, a = act n (setL (C i) (setL V ρh)) ∧ Own w0 (B i) w := by
  obtain ⟨i, hi, ρ', rfl, hC, hV, hA⟩ := h
  exact ⟨i, hi, ρ', by rw [← set_self hV, ← set_self hC], hA⟩
theorem WC.cut {ι : Type} (C : ι → List (Nat × Value)) (V : List (Nat × Value)) (B : ι → List HProp) (R : ι → Prop)
    (hx : WC P w0 n x (Exit.then (Mid w0 n C V B R) Q) ρ A)
    (hy : ∀ i, R i → ∀ ρh, WC P w0 n y Q (setL (C i) (setL V ρh)) (B i)) : WC P w0 n (.seq x y) Q ρ A := ⟨fun w hw =>
  wp_seq (wp_mono (hx.run w hw) fun e a w' hq => by
    cases e with
    | normal =>
      obtain ⟨i, hi, ρh, rfl, hA⟩ := Mid.use hq
      exact (hy i hi ρh).run w' hA
    | exit _ => exact hq
    | goto _ => exact hq
    | ret => exact hq
    | panic _ => exact hq
    | outgrown => exact hq)⟩
/-- A cut with nothing chosen. -/
theorem WC.cut0 (C V : List (Nat × Value)) (B : List HProp) (_ : AllC V ρ)
    (hx : WC P w0 n x (Exit.then (Mid w0 n (fun _ : Unit => C) V (fun _ => B) (fun _ => True)) Q) ρ A)
    (hy : ∀ ρh, WC P w0 n y Q (setL C (setL V ρh)) B) : WC P w0 n (.seq x y) Q ρ A := WC.cut (fun _ : Unit => C) V (fun _ => B) (fun _ => True) hx fun _ _ => hy
theorem WX.mid {ι : Type} {C : ι → List (Nat × Value)} {V : List (Nat × Value)} {B : ι → List HProp} {R : ι → Prop} (i : ι) (hR : R i) (hC : AllC (C i) ρ) (hV : AllC V ρ)
    (hA : ∀ w, Own w0 A w → Own w0 (B i) w) : WX w0 n (Exit.then (Mid w0 n C V B R) Q) .normal ρ A := ⟨fun w hw => ⟨i, hR, ρ, rfl, hC, hV, hA w hw⟩⟩
/-- The frame is forgotten but for these values. -/
theorem WC.keep (V : List (Nat × Value)) (hV : AllC V ρ) (h : ∀ ρh, WC P w0 n c Q (setL V ρh) A) : WC P w0 n c Q ρ A := by
  have := h ρ
  rwa [← set_self hV] at this
/-- A loop; 'i0' at its first round. -/
theorem WC.loop {ι : Type} (C : ι → List (Nat × Value)) (V : List (Nat × Value)) (B : ι → List HProp) (R : ι → Prop) (μ : ι → Nat) (i0 : ι)
    (hR : R i0) (hC : AllC (C i0) ρ) (hV : AllC V ρ) (hA : ∀ w, Own w0 A w → Own w0 (B i0) w)
    (round : ∀ i, R i → ∀ ρh, WC P w0 n c (Exit.then (Mid w0 n C V B (fun j => R j ∧ μ j < μ i)) Q) (setL (C i) (setL V ρh)) (B i)) : WC P w0 n (.loop c) Q ρ A := by
  refine ⟨fun w hw => ?_⟩
  have key : ∀ m i, μ i = m → R i → ∀ a w, (∃ ρh, a = act n (setL (C i) (setL V ρh)) ∧ Own w0 (B i) w) → ∀ (b : Frame) (k : List Item) (cs : List Frame),
      ∃ e a' w', Q e a' w' ∧ Arrives P (lone (b.at a (.code c :: .inLoop c :: k)) cs w) b k cs e a' w' := by
    intro m
    induction m using Nat.strongRecOn with
    | _ m ih =>
      intro i hm hi a w ⟨ρh, ha, hO⟩ b k cs
      subst ha
      obtain ⟨e, a₁, w₁, hq, harr⟩ := (round i hi ρh).run w hO b (.inLoop c :: k) cs
      cases e with
      | normal =>
        obtain ⟨j, ⟨hj, hlt⟩, ρ1, rfl, hO1⟩ := Mid.use hq
        obtain ⟨e₂, a₂, w₂, hq₂, harr₂⟩ := ih (μ j) (hm ▸ hlt) j rfl hj _ w₁ ⟨ρ1, rfl, hO1⟩ b k cs
        exact ⟨e₂, a₂, w₂, hq₂, .of_steps (Steps.trans harr (.one step_inLoop)) harr₂⟩
      | exit id => exact ⟨_, a₁, w₁, hq, .pass (x := .inLoop c) rfl (fun _ _ => .inl (by simp)) harr⟩
      | goto l => exact ⟨_, a₁, w₁, hq, .pass (x := .inLoop c) rfl (fun _ _ => .inl (by simp)) harr⟩
      | ret => exact ⟨_, a₁, w₁, hq, .pass (x := .inLoop c) rfl (fun _ _ => .inl (by simp)) harr⟩
      | panic ch => exact ⟨_, a₁, w₁, hq, .pass (x := .inLoop c) rfl (fun _ _ => .inl (by simp)) harr⟩
      | outgrown => exact ⟨_, a₁, w₁, hq, .pass (x := .inLoop c) rfl (fun _ _ => .inl (by simp)) harr⟩
  intro b k cs
  obtain ⟨e, a', w', hq, harr⟩ := key _ i0 rfl hR (act n ρ) w ⟨ρ, by rw [← set_self hV, ← set_self hC], hA w hw⟩ b k cs
  exact ⟨e, a', w', hq, .of_steps (.one step_loop) harr⟩
/-- the end of a round -/
theorem WX.again {ι : Type} {C : ι → List (Nat × Value)} {V : List (Nat × Value)} {B : ι → List HProp} {R : ι → Prop} {μ : ι → Nat} {m : Nat} (j : ι) (hR : R j) (hμ : μ j < m) (hC : AllC (C j) ρ) (hV : AllC V ρ)
    (hA : ∀ w, Own w0 A w → Own w0 (B j) w) : WX w0 n (Exit.then (Mid w0 n C V B (fun j => R j ∧ μ j < m)) Q) .normal ρ A := ⟨fun w hw => ⟨j, ⟨hR, hμ⟩, ρ, rfl, hC, hV, hA w hw⟩⟩

/-! ### Functions -/
def Ret (w0 : World) {ι : Type} (pr : ι → Prop) (val : ι → Value) (post : ι → List HProp) : Ending → World → Prop := fun e w => ∃ i, pr i ∧ e = .returned (val i) ∧ Own w0 (post i) w
structure Fun (P : Program) (w0 : World) (f : FuncId) (args : List Value) (A : List HProp) (R : Ending → World → Prop) : Prop where
  run : ∀ w, Own w0 A w → Calls P f args.toArray w R
theorem Fun.enter {f : FuncId} {fn : Func} {args : List Value} {R : Ending → World → Prop} (hf : P.funcs[f]? = some fn) (hb : fn.body = some c) (hn : fn.ntmps = n) (hs : Nat.ble args.length n = true)
    (h : WC P w0 n c (bodyPost P fn R) (argE args) A) : Fun P w0 f args A R := by
  refine ⟨fun w hw => ?_⟩
  refine calls_of_wp hf hb ?_
  subst hn
  have := h.run w hw
  rwa [act, ← args_arr args fn.ntmps (by simpa using hs)] at this
theorem Fun.perm {f : FuncId} {args : List Value} {R : Ending → World → Prop} (h : Fun P w0 f args A' R) (hA : ∀ w, Own w0 A w → Own w0 A' w) : Fun P w0 f args A R := ⟨fun w hw => h.run w (hA w hw)⟩
theorem Fun.mono {f : FuncId} {args : List Value} {R R' : Ending → World → Prop} (h : Fun P w0 f args A R) (hR : ∀ e w, R e w → R' e w) : Fun P w0 f args A R' := ⟨fun w hw => (h.run w hw).mono hR⟩
section
variable {ι : Type} {pr : ι → Prop} {val : ι → Value} {post : ι → List HProp} {fn : Func}
theorem arr_getD (n : Nat) (ρ : Env) (t : Nat) : (arr n ρ).getD t undef = ev n ρ (.tmp t) := by rw [← eval_act]; rfl
theorem WX.ret0 (hres : fn.results = #[]) (i : ι) (hp : pr i) (hv : val i = .tuple #[]) (hA : ∀ w, Own w0 A w → Own w0 (post i) w) : WX w0 n (bodyPost P fn (Ret w0 pr val post)) .ret ρ A :=
  ⟨fun w hw => bodyPost_ret (results_none hres _ _ _) rfl ⟨i, hp, by rw [hv], hA w hw⟩⟩
theorem WX.end0 (hres : fn.results = #[]) (i : ι) (hp : pr i) (hv : val i = .tuple #[]) (hA : ∀ w, Own w0 A w → Own w0 (post i) w) : WX w0 n (bodyPost P fn (Ret w0 pr val post)) .normal ρ A :=
  ⟨fun w hw => bodyPost_end (results_none hres _ _ _) rfl ⟨i, hp, by rw [hv], hA w hw⟩⟩
theorem WX.ret1 {t : Nat} (hres : fn.results = #[.tmp t]) (i : ι) (hp : pr i) (hv : ev n ρ (.tmp t) = val i) (hA : ∀ w, Own w0 A w → Own w0 (post i) w) : WX w0 n (bodyPost P fn (Ret w0 pr val post)) .ret ρ A :=
  ⟨fun w hw => bodyPost_ret (results_tmp hres _ _ _) rfl ⟨i, hp, by rw [← hv, ← arr_getD]; rfl, hA w hw⟩⟩
theorem WX.ret2 {t u : Nat} (hres : fn.results = #[.tmp t, .tmp u]) (i : ι) (hp : pr i) (hv : Value.tuple #[ev n ρ (.tmp t), ev n ρ (.tmp u)] = val i) (hA : ∀ w, Own w0 A w → Own w0 (post i) w) : WX w0 n (bodyPost P fn (Ret w0 pr val post)) .ret ρ A :=
  ⟨fun w hw => bodyPost_ret (results_tmp2 hres _ _ _) rfl ⟨i, hp, by rw [← hv, ← arr_getD, ← arr_getD]; rfl, hA w hw⟩⟩
theorem results_tmp3 {fn : Func} {t u s : Tmp} (h : fn.results = #[.tmp t, .tmp u, .tmp s]) (tmps : Array Value) (P : Program) (w : World) :
    (results fn tmps).run P w = .ok (.tuple #[tmps.getD t undef, tmps.getD u undef, tmps.getD s undef]) w := by
  simp [results, h]
theorem WX.ret3 {t u s : Nat} (hres : fn.results = #[.tmp t, .tmp u, .tmp s]) (i : ι) (hp : pr i) (hv : Value.tuple #[ev n ρ (.tmp t), ev n ρ (.tmp u), ev n ρ (.tmp s)] = val i) (hA : ∀ w, Own w0 A w → Own w0 (post i) w) : WX w0 n (bodyPost P fn (Ret w0 pr val post)) .ret ρ A :=
  ⟨fun w hw => bodyPost_ret (results_tmp3 hres _ _ _) rfl ⟨i, hp, by rw [← hv, ← arr_getD, ← arr_getD, ← arr_getD]; rfl, hA w hw⟩⟩
end

/-! ### One operation that yields a value and leaves the world -/
def Val (P : Program) (w0 : World) (n : Nat) (ρ : Env) (A : List HProp) (o : Oper) (v : Value) : Prop := ∀ w, Own w0 A w → (execOp (ev n ρ) o).run P w = .ok (.value v) w
def dstAt : List Oper → Nat → Option Tmp
  | [], _ => none
  | o :: _, 0 => o.dst
  | _ :: l, k + 1 => dstAt l k
def boolV : Value → Option Bool
  | .bool b => some b
  | _ => none
def yieldN (n : Nat) (ρ : Env) (ops : Array Oper) (g : Nat) : Option Bool := (dstAt ops.toList g).bind fun t => boolV (ev n ρ (.tmp t))
theorem dstAt_eq : ∀ (l : List Oper) (g : Nat), dstAt l g = (l[g]?).bind (·.dst)
  | [], _ => rfl
  | _ :: _, 0 => rfl
  | _ :: l, k + 1 => by simpa [dstAt] using dstAt_eq l k
theorem yielded_arr (n : Nat) (ρ : Env) (ops : Array Oper) (g : Nat) : yielded ops (arr n ρ) g = yieldN n ρ ops g := by
  unfold yielded yieldN
  rw [dstAt_eq, Array.getElem?_toList]
  cases (ops[g]?).bind (·.dst) with
  | none => rfl
  | some t =>
    simp only [← eval_act, Option.bind_some]
    show (match (arr n ρ)[t]? with | some (.bool b) => some b | _ => none) = boolV ((arr n ρ).getD t undef)
    rw [Array.getD_eq_getD_getElem?]
    cases (arr n ρ)[t]? with
    | none => rfl
    | some v => cases v <;> rfl
variable {d : Nat} {op : Op} {T : TypeId} {pos : String} {af : Array Edge} {v : Value} {g : Nat} {b : Bool}
theorem sv (hv : Val P w0 n ρ A ⟨some d, op, T, pos, af, none⟩ v) (h : WL P w0 n ops Q rest (set ρ d v) A) : WL P w0 n ops Q (⟨some d, op, T, pos, af, none⟩ :: rest) ρ A := by
  refine ⟨fun w hw => ?_⟩
  refine wpList_plain rfl fun K hK => ?_
  unfold Oper.wp
  rw [eval_act, hv w hw, Oper.upon_value, put_act]
  exact hK _ _ (h.run w hw)
theorem svg (hg : yieldN n ρ ops g = some b) (hv : Val P w0 n ρ A ⟨some d, op, T, pos, af, some (g, b)⟩ v) (h : WL P w0 n ops Q rest (set ρ d v) A) : WL P w0 n ops Q (⟨some d, op, T, pos, af, some (g, b)⟩ :: rest) ρ A := by
  refine ⟨fun w hw => ?_⟩
  refine wpList_step fun K hK => ?_
  have hw' : Region.wanted ⟨some d, op, T, pos, af, some (g, b)⟩ (yielded ops (act n ρ).tmps) = true := by
    simp only [Region.wanted, act, yielded_arr, hg, beq_self_eq_true]
  rw [if_pos hw']
  unfold Oper.wp
  rw [eval_act, hv w hw, Oper.upon_value, put_act]
  exact hK _ _ (h.run w hw)
theorem sng (hg : (yieldN n ρ ops g == some b) = false) (h : WL P w0 n ops Q rest (set ρ d undef) A) : WL P w0 n ops Q (⟨some d, op, T, pos, af, some (g, b)⟩ :: rest) ρ A := by
  refine ⟨fun w hw => ?_⟩
  refine wpList_step fun K hK => ?_
  have hw' : ¬ Region.wanted ⟨some d, op, T, pos, af, some (g, b)⟩ (yielded ops (act n ρ).tmps) = true := by
    simp only [Region.wanted, act, yielded_arr, hg]; simp
  rw [if_neg hw', put_act]
  exact hK _ _ (h.run w hw)
theorem sng0 (hg : (yieldN n ρ ops g == some b) = false) (h : WL P w0 n ops Q rest ρ A) : WL P w0 n ops Q (⟨none, op, T, pos, af, some (g, b)⟩ :: rest) ρ A := by
  refine ⟨fun w hw => ?_⟩
  refine wpList_step fun K hK => ?_
  have hw' : ¬ Region.wanted ⟨none, op, T, pos, af, some (g, b)⟩ (yielded ops (act n ρ).tmps) = true := by
    simp only [Region.wanted, act, yielded_arr, hg]; simp
  rw [if_neg hw', put_act_none]
  exact hK _ _ (h.run w hw)
theorem Val.quiet {o : Oper} (hv : Val P w0 n ρ A o v) {K : Act → Prop} (h : K ((act n ρ).put o.dst v)) : o.quiet P (act n ρ) (Own w0 A) K :=
  ⟨v, fun w hw => by unfold Oper.quietAt; rw [eval_act, hv w hw]; exact ⟨rfl, rfl⟩, h⟩
theorem qv (hv : Val P w0 n ρ A ⟨some d, op, T, pos, af, none⟩ v) (h : WQ P w0 n ops Q rest (set ρ d v) A) : WQ P w0 n ops Q (⟨some d, op, T, pos, af, none⟩ :: rest) ρ A := by
  refine ⟨?_⟩
  refine wpQuiet_step fun K hK => ?_
  simp only [Region.wanted, if_true]
  exact hv.quiet (by rw [put_act]; exact hK _ h.run)
theorem qvg (hg : yieldN n ρ ops g = some b) (hv : Val P w0 n ρ A ⟨some d, op, T, pos, af, some (g, b)⟩ v) (h : WQ P w0 n ops Q rest (set ρ d v) A) : WQ P w0 n ops Q (⟨some d, op, T, pos, af, some (g, b)⟩ :: rest) ρ A := by
  refine ⟨?_⟩
  refine wpQuiet_step fun K hK => ?_
  simp only [Region.wanted, act, yielded_arr, hg, beq_self_eq_true, if_true]
  exact hv.quiet (by rw [put_act]; exact hK _ h.run)
theorem qng (hg : (yieldN n ρ ops g == some b) = false) (h : WQ P w0 n ops Q rest (set ρ d undef) A) : WQ P w0 n ops Q (⟨some d, op, T, pos, af, some (g, b)⟩ :: rest) ρ A := by
  refine ⟨?_⟩
  refine wpQuiet_step fun K hK => ?_
  simp only [Region.wanted, act, yielded_arr, hg, Bool.false_eq_true, if_false]
  have := hK _ h.run
  rwa [← put_act] at this
end
end Go.Sl
