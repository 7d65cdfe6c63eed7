/-
  Texts one behind the other: SlCore, SlOps, SlMem, SlMore, SlRow, SlView, SlDraw, SlOwn, SlMap, SlStr, SlRows, SlAgg, SlFor, RaftPure, RaftInv, RaftKeep.
-/
import Derived.WalkKit
import Derived.Deep.Quiet
import Derived.KernelRfl
import Derived.Laws.IdiomStrings
import Derived.Laws.BytesArg
import Derived.ProofKit
import Derived.OpenShut
import Derived.ShutString
import Derived.ChangeOld
import Derived.Below
import Derived.SizedLaws
import Derived.MapKept
import Derived.Maps.RangeRun
import Derived.RangeFuncRecord
import Derived.Laws.Cover3
section
set_option linter.unusedVariables false
set_option linter.unusedSimpArgs false
namespace Go.Sl
open Go.RowKit
abbrev Env := Nat → Value
def set (ρ : Env) (k : Nat) (v : Value) : Env := fun t => bif Nat.beq t k then v else ρ t
def arr (n : Nat) (ρ : Env) : Array Value := Array.ofFn (fun i : Fin n => ρ i)
def act (n : Nat) (ρ : Env) : Act := ⟨arr n ρ, []⟩
def ev (n : Nat) (ρ : Env) : Operand → Value
  | .tmp t => bif Nat.blt t n then ρ t else undef
  | .const v => v
  | .global g => .pointer (some ⟨g, 0, none⟩)
  | .func f => .func (.func f) #[] #[]
def evs (n : Nat) (ρ : Env) : List Operand → List Value
  | [] => []
  | x :: l => ev n ρ x :: evs n ρ l
def argE : List Value → Env
  | [], _ => undef
  | v :: _, 0 => v
  | _ :: l, t + 1 => argE l t
def setL : List (Nat × Value) → Env → Env
  | [], ρ => ρ
  | (k, v) :: L, ρ => set (setL L ρ) k v
def AllC : List (Nat × Value) → Env → Prop
  | [], _ => True
  | (k, v) :: L, ρ => ρ k = v ∧ AllC L ρ
theorem arr_get? (n : Nat) (ρ : Env) (t : Nat) : (arr n ρ)[t]? = if t < n then some (ρ t) else none := by
  unfold arr
  rw [Array.getElem?_ofFn]
  split <;> simp
theorem eval_act (n : Nat) (ρ : Env) : (act n ρ).eval = ev n ρ := by
  funext x
  cases x with
  | tmp t =>
    show (arr n ρ).getD t undef = bif Nat.blt t n then ρ t else undef
    rw [Array.getD_eq_getD_getElem?, arr_get?]
    by_cases h : t < n
    · have : Nat.blt t n = true := by rw [Nat.blt_eq]; exact h
      simp [h, this]
    · have : Nat.blt t n = false := by
        rw [Bool.eq_false_iff]; intro h'; apply h; rwa [Nat.blt_eq] at h'
      simp [h, this]
  | const v => rfl
  | global g => rfl
  | func f => rfl
theorem arr_set (n : Nat) (ρ : Env) (d : Nat) (v : Value) : (arr n ρ).setIfInBounds d v = arr n (set ρ d v) := by
  apply Array.ext_getElem?
  intro t
  rw [Array.getElem?_setIfInBounds, arr_get?, arr_get?]
  by_cases hd : d = t
  · subst hd
    have : (arr n ρ).size = n := by simp [arr]
    by_cases h : d < n <;> simp [h, this, set]
  · have hne : ¬ t = d := fun h => hd h.symm
    have hb : Nat.beq t d = false := by cases hb : Nat.beq t d with
      | false => rfl
      | true => exact absurd (Nat.eq_of_beq_eq_true hb) hne
    by_cases h : t < n <;> simp [h, hd, set, hb]
theorem put_act (n : Nat) (ρ : Env) (d : Nat) (v : Value) : (act n ρ).put (some d) v = act n (set ρ d v) := by
  simp only [act, Act.put, arr_set]
theorem args_arr (l : List Value) (n : Nat) (h : l.length ≤ n) : l.toArray ++ Array.replicate (n - l.toArray.size) undef = arr n (argE l) := by
  have hg : ∀ (l : List Value) (t : Nat), argE l t = (l[t]?).getD undef := by
    intro l
    induction l with
    | nil => intro t; rfl
    | cons v l ih =>
      intro t
      cases t with
      | zero => rfl
      | succ t => simpa [argE] using ih t
  apply Array.ext_getElem?
  intro t
  rw [arr_get?, Array.getElem?_append]
  simp only [List.size_toArray, List.getElem?_toArray, hg]
  by_cases h1 : t < l.length
  · have h2 : t < n := by omega
    simp [h1, h2]
  · by_cases h2 : t < n
    · have : t - l.length < n - l.length := by omega
      have h3 : l[t]? = none := by simp; omega
      simp [h1, h2, h3, Array.getElem?_replicate, this]
    · have : ¬ t - l.length < n - l.length := by omega
      simp [h1, h2, Array.getElem?_replicate, this]
abbrev PHeap := Nat → Option Obj
abbrev HProp := PHeap → Prop
def emp : HProp := fun h => ∀ b, h b = none
def pt (b : Nat) (o : Obj) : HProp := fun h => ∀ b', h b' = if b' = b then some o else none
def star (A B : HProp) : HProp := fun h => ∃ h1 h2 : PHeap, A h1 ∧ B h2 ∧ (∀ b, h1 b = none ∨ h2 b = none) ∧ ∀ b, h b = (h1 b).or (h2 b)
def ex {α : Type} (A : α → HProp) : HProp := fun h => ∃ x, A x h
def seps : List HProp → HProp
  | [] => emp
  | A :: l => star A (seps l)
def Own (w0 : World) (l : List HProp) (w : World) : Prop :=
  Below w0.heap.size w0 w ∧ ∃ h : PHeap, seps l h ∧ ∀ b o, h b = some o → w0.heap.size ≤ b ∧ w.heap[b]? = some o
section
variable {w0 w : World} {A B C D E F G : HProp} {l l' R : List HProp}
theorem star_comm {h : PHeap} (H : star A B h) : star B A h := by
  obtain ⟨h1, h2, a, b, d, e⟩ := H
  refine ⟨h2, h1, b, a, fun x => (d x).symm, fun x => ?_⟩
  rw [e x]
  rcases d x with hx | hx <;> simp [hx]
theorem star_assoc {h : PHeap} (H : star (star A B) C h) : star A (star B C) h := by
  obtain ⟨h12, h3, ⟨h1, h2, a, b, d, e⟩, c, d', e'⟩ := H
  have hx : ∀ x, (h1 x = none ∨ h3 x = none) ∧ (h2 x = none ∨ h3 x = none) := by
    intro x
    have := d' x
    rw [e x] at this
    rcases this with h | h
    · rw [Option.or_eq_none_iff] at h
      exact ⟨.inl h.1, .inl h.2⟩
    · exact ⟨.inr h, .inr h⟩
  refine ⟨h1, fun x => (h2 x).or (h3 x), a, ⟨h2, h3, b, c, fun x => (hx x).2, fun _ => rfl⟩, fun x => ?_, fun x => ?_⟩
  · rcases d x with h | h
    · exact .inl h
    · rcases (hx x).1 with h' | h'
      · exact .inl h'
      · right; show (h2 x).or (h3 x) = none; rw [h, h']; rfl
  · rw [e' x, e x, Option.or_assoc]
theorem star_assoc' {h : PHeap} (H : star A (star B C) h) : star (star A B) C h :=
  star_comm (star_assoc (star_comm (star_assoc (star_comm H))))
theorem star_mono {h : PHeap} (H : star A B h) (f : ∀ h, A h → C h) (g : ∀ h, B h → D h) : star C D h := by
  obtain ⟨h1, h2, a, b, d, e⟩ := H
  exact ⟨h1, h2, f _ a, g _ b, d, e⟩
theorem seps_perm (hp : l.Perm l') : ∀ h, seps l h → seps l' h := by
  induction hp with
  | nil => exact fun _ h => h
  | cons x _ ih => exact fun h H => star_mono H (fun _ h => h) ih
  | swap x y l => exact fun h H => star_assoc (star_mono (star_assoc' H) (fun _ => star_comm) (fun _ h => h))
  | trans _ _ i1 i2 => exact fun h H => i2 h (i1 h H)
theorem Own.perm (H : Own w0 l w) (hp : l.Perm l') : Own w0 l' w :=
  ⟨H.1, let ⟨h, a, b⟩ := H.2; ⟨h, seps_perm hp h a, b⟩⟩
theorem Own.imp (H : Own w0 l w) (f : ∀ h, seps l h → seps l' h) : Own w0 l' w :=
  ⟨H.1, let ⟨h, a, b⟩ := H.2; ⟨h, f h a, b⟩⟩
theorem Own.head (H : Own w0 (A :: l) w) (f : ∀ h, A h → B h) : Own w0 (B :: l) w :=
  H.imp fun _ h => star_mono h f (fun _ h => h)
theorem Own.tail (H : Own w0 (A :: l) w) : Own w0 l w := by
  obtain ⟨hb, h, ⟨h1, h2, _, a2, d, e⟩, hw⟩ := H
  refine ⟨hb, h2, a2, fun b o ho => hw b o ?_⟩
  rw [e b]
  rcases d b with h' | h'
  · rw [h', ho]; rfl
  · rw [h'] at ho; cases ho
theorem Own.pk1 (H : Own w0 (A :: B :: R) w) : Own w0 (B :: A :: R) w := H.perm (.swap _ _ _)
theorem Own.pk2 (H : Own w0 (A :: B :: C :: R) w) : Own w0 (C :: A :: B :: R) w := H.perm ((List.Perm.swap _ _ _).cons _ |>.trans (.swap _ _ _))
theorem perm_pk (l : List HProp) (x : HProp) (R : List HProp) : (l ++ x :: R).Perm (x :: (l ++ R)) := List.perm_middle
theorem Own.pk3 (H : Own w0 (A :: B :: C :: D :: R) w) : Own w0 (D :: A :: B :: C :: R) w := H.perm (perm_pk [A, B, C] D R)
theorem Own.pk4 (H : Own w0 (A :: B :: C :: D :: E :: R) w) : Own w0 (E :: A :: B :: C :: D :: R) w := H.perm (perm_pk [A, B, C, D] E R)
theorem Own.pk5 (H : Own w0 (A :: B :: C :: D :: E :: F :: R) w) : Own w0 (F :: A :: B :: C :: D :: E :: R) w := H.perm (perm_pk [A, B, C, D, E] F R)
theorem Own.pk6 (H : Own w0 (A :: B :: C :: D :: E :: F :: G :: R) w) : Own w0 (G :: A :: B :: C :: D :: E :: F :: R) w := H.perm (perm_pk [A, B, C, D, E, F] G R)
theorem Own.below (H : Own w0 l w) : Below w0.heap.size w0 w := H.1
theorem Own.drew (H : Own w0 l w) : Own w0 l { w with drawn := w.drawn + 1 } :=
  ⟨⟨H.1.os, H.1.tape, H.1.output, H.1.size, H.1.block⟩, H.2⟩
theorem Own.start (w : World) : Own w [] w := ⟨Below.refl _ _, fun _ => none, fun _ => rfl, fun _ _ h => by cases h⟩
theorem Own.heap {b : Nat} {o : Obj} (H : Own w0 (pt b o :: l) w) : w.heap[b]? = some o ∧ w0.heap.size ≤ b := by
  obtain ⟨_, h, ⟨h1, h2, a1, _, _, e⟩, hw⟩ := H
  have : h b = some o := by rw [e b, a1 b]; simp
  exact ⟨(hw b o this).2, (hw b o this).1⟩
theorem Own.mem (H : Own w0 l w) (hm : A ∈ l) : ∃ R, Own w0 (A :: R) w := by
  obtain ⟨s, t, rfl⟩ := List.append_of_mem hm
  exact ⟨s ++ t, H.perm List.perm_middle⟩
theorem Own.intro_star (H : Own w0 (A :: B :: l) w) : Own w0 (star A B :: l) w := H.imp fun _ h => star_assoc' h
theorem Own.star (H : Own w0 (star A B :: l) w) : Own w0 (A :: B :: l) w := H.imp fun _ h => star_assoc h
theorem Own.intro_emp (H : Own w0 l w) : Own w0 (emp :: l) w := by
  refine H.imp fun h a => ⟨fun _ => none, h, fun _ => rfl, a, fun _ => .inl rfl, fun b => by simp⟩
theorem Own.ex {α : Type} {X : α → HProp} (H : Own w0 (ex X :: l) w) : ∃ x, Own w0 (X x :: l) w := by
  obtain ⟨hb, h, ⟨h1, h2, ⟨x, a⟩, a2, d, e⟩, hw⟩ := H
  exact ⟨x, hb, h, ⟨h1, h2, a, a2, d, e⟩, hw⟩
theorem Own.intro_ex {α : Type} {X : α → HProp} (x : α) (H : Own w0 (X x :: l) w) : Own w0 (Sl.ex X :: l) w := H.head fun _ h => ⟨x, h⟩
theorem Own.alloc (H : Own w0 l w) (o : Obj) : Own w0 (pt w.heap.size o :: l) (w.alloc o) := by
  obtain ⟨hb, h, a, hw⟩ := H
  refine ⟨hb.alloc hb.size o, fun b => if b = w.heap.size then some o else h b, ⟨fun b => if b = w.heap.size then some o else none, h, fun b => rfl, a, fun b => ?_, fun b => ?_⟩, fun b o' ho => ?_⟩
  · by_cases hs : b = w.heap.size
    · right
      cases hh : h b with
      | none => rfl
      | some x => have := (hw b x hh).2; rw [hs] at this; simp at this
    · left; simp [hs]
  · by_cases hs : b = w.heap.size <;> simp [hs]
  · by_cases hs : b = w.heap.size
    · subst hs
      simp at ho
      subst ho
      exact ⟨hb.size, heap_alloc_new w _⟩
    · simp [hs] at ho
      have := hw b o' ho
      have hlt : b < w.heap.size := (Array.getElem?_eq_some_iff.1 this.2).1
      exact ⟨this.1, by rw [heap_alloc_old w o hlt]; exact this.2⟩
theorem Own.turn {b : Nat} {o o' : Obj} {w' : World} (H : Own w0 (pt b o :: l) w) (hos : w'.os = w.os) (ht : w'.tape = w.tape) (ho : w'.output = w.output) (hs : w'.heap.size = w.heap.size)
    (hb : w'.heap[b]? = some o') (hne : ∀ k, k ≠ b → w'.heap[k]? = w.heap[k]?) : Own w0 (pt b o' :: l) w' := by
  have hB := H.heap.2
  obtain ⟨hbl, h, ⟨h1, h2, a1, a2, d, e⟩, hw⟩ := H
  refine ⟨hbl.trans ⟨hos, ht, ho, by omega, fun k hk => hne k (by omega)⟩, fun x => if x = b then some o' else h2 x, ⟨fun x => if x = b then some o' else none, h2, fun _ => rfl, a2, fun x => ?_, fun x => ?_⟩, fun x o1 hx => ?_⟩
  · have := d x
    rw [a1 x] at this
    by_cases hxb : x = b
    · simpa [hxb] using this
    · left; simp [hxb]
  · by_cases hxb : x = b <;> simp [hxb]
  · by_cases hxb : x = b
    · subst hxb
      simp at hx
      subst hx
      exact ⟨hB, hb⟩
    · simp [hxb] at hx
      rw [hne x hxb]
      refine hw x o1 ?_
      rw [e x, a1 x]
      simp [hxb, hx]
end
section
variable {P : Program} {w0 : World} {n : Nat} {ops : Array Oper} {Q Q' : Exit → Act → World → Prop} {ρ : Env} {A A' : List HProp} {x y c : Code} {l rest : List Oper}
structure WL (P : Program) (w0 : World) (n : Nat) (ops : Array Oper) (Q : Exit → Act → World → Prop) (l : List Oper) (ρ : Env) (A : List HProp) : Prop where
  run : ∀ w, Own w0 A w → wpList P ops Q l (act n ρ) w
structure WC (P : Program) (w0 : World) (n : Nat) (c : Code) (Q : Exit → Act → World → Prop) (ρ : Env) (A : List HProp) : Prop where
  run : ∀ w, Own w0 A w → c.wp P Q (act n ρ) w
structure WX (w0 : World) (n : Nat) (Q : Exit → Act → World → Prop) (e : Exit) (ρ : Env) (A : List HProp) : Prop where
  run : ∀ w, Own w0 A w → Q e (act n ρ) w
structure WQ (P : Program) (w0 : World) (n : Nat) (ops : Array Oper) (Q : Exit → Act → World → Prop) (l : List Oper) (ρ : Env) (A : List HProp) : Prop where
  run : wpQuiet P ops (Own w0 A) (fun a => ∀ w, Own w0 A w → Q .normal a w) l (act n ρ)
theorem WC.perm (h : WC P w0 n c Q ρ A') (hA : ∀ w, Own w0 A w → Own w0 A' w) : WC P w0 n c Q ρ A := ⟨fun w hw => h.run w (hA w hw)⟩
theorem WL.perm (h : WL P w0 n ops Q l ρ A') (hA : ∀ w, Own w0 A w → Own w0 A' w) : WL P w0 n ops Q l ρ A := ⟨fun w hw => h.run w (hA w hw)⟩
theorem WX.perm {e : Exit} (h : WX w0 n Q e ρ A') (hA : ∀ w, Own w0 A w → Own w0 A' w) : WX w0 n Q e ρ A := ⟨fun w hw => h.run w (hA w hw)⟩
theorem WC.seq (h : WC P w0 n x (Exit.then (y.wp P Q) Q) ρ A) : WC P w0 n (.seq x y) Q ρ A := ⟨fun w hw => wp_seq (h.run w hw)⟩
theorem WC.skip (h : WX w0 n Q .normal ρ A) : WC P w0 n .skip Q ρ A := ⟨fun w hw => wp_skip (h.run w hw)⟩
theorem WC.ret (h : WX w0 n Q .ret ρ A) : WC P w0 n .ret Q ρ A := ⟨fun w hw => wp_ret (h.run w hw)⟩
theorem WC.exit {i : Nat} (h : WX w0 n Q (.exit i) ρ A) : WC P w0 n (.exit i) Q ρ A := ⟨fun w hw => wp_exit (h.run w hw)⟩
theorem WC.block {i : Nat} (h : WC P w0 n c (Exit.inBlock i Q) ρ A) : WC P w0 n (.block i c) Q ρ A := ⟨fun w hw => wp_block (h.run w hw)⟩
theorem WC.region {i : Nat} (h : WL P w0 n l.toArray Q l ρ A) : WC P w0 n (.region i l.toArray false) Q ρ A := ⟨fun w hw => wp_region_lit (h.run w hw)⟩
theorem WC.draws {i : Nat} (hm : P.follows .mixedOrders = true) (hB : Region.lexB .any l.toArray = true) (h : WQ P w0 n l.toArray Q l ρ A) : WC P w0 n (.region i l.toArray true) Q ρ A :=
  ⟨fun w hw => wp_region_quiet (C := Own w0 A) hm hB hw.drew h.run⟩
theorem WL.nil (h : WX w0 n Q .normal ρ A) : WL P w0 n ops Q [] ρ A := ⟨fun w hw => wpList_nil (h.run w hw)⟩
theorem WQ.nil (h : WX w0 n Q .normal ρ A) : WQ P w0 n ops Q [] ρ A := ⟨wpQuiet_nil h.run⟩
theorem WX.thenN (h : WC P w0 n y Q' ρ A) : WX w0 n (Exit.then (y.wp P Q') Q) .normal ρ A := ⟨h.run⟩
theorem WX.thenR {K : Act → World → Prop} (h : WX w0 n Q .ret ρ A) : WX w0 n (Exit.then K Q) .ret ρ A := ⟨h.run⟩
theorem WX.thenE {K : Act → World → Prop} {i : Nat} (h : WX w0 n Q (.exit i) ρ A) : WX w0 n (Exit.then K Q) (.exit i) ρ A := ⟨h.run⟩
theorem WX.blockN {i : Nat} (h : WX w0 n Q .normal ρ A) : WX w0 n (Exit.inBlock i Q) .normal ρ A := ⟨h.run⟩
theorem WX.blockR {i : Nat} (h : WX w0 n Q .ret ρ A) : WX w0 n (Exit.inBlock i Q) .ret ρ A := ⟨h.run⟩
theorem WX.blockE {i j : Nat} (hne : (i == j) = false) (h : WX w0 n Q (.exit i) ρ A) : WX w0 n (Exit.inBlock j Q) (.exit i) ρ A := ⟨fun w hw => by
  have : ¬ i = j := by simpa using hne
  simp only [Exit.inBlock, if_neg this]
  exact h.run w hw⟩
theorem WX.blockH {i : Nat} (h : WX w0 n Q .normal ρ A) : WX w0 n (Exit.inBlock i Q) (.exit i) ρ A := ⟨fun w hw => by
  simp only [Exit.inBlock, if_true]
  exact h.run w hw⟩
theorem WC.ite {p : Prop} [Decidable p] {o : Operand} (hc : ev n ρ o = .bool (decide p)) (ht : p → WC P w0 n x Q ρ A) (hf : ¬ p → WC P w0 n y Q ρ A) : WC P w0 n (.cond o x y) Q ρ A := ⟨fun w hw =>
  wp_cond_split (t := decide p) (by rw [eval_act]; exact hc) (fun h => (ht (by simpa using h)).run w hw) (fun h => (hf (by simpa using h)).run w hw)⟩
theorem WC.iteb {b : Bool} {o : Operand} (hc : ev n ρ o = .bool b) (ht : b = true → WC P w0 n x Q ρ A) (hf : b = false → WC P w0 n y Q ρ A) : WC P w0 n (.cond o x y) Q ρ A := ⟨fun w hw =>
  wp_cond_split (t := b) (by rw [eval_act]; exact hc) (fun h => (ht h).run w hw) (fun h => (hf h).run w hw)⟩
theorem WC.tt {o : Operand} (hc : ev n ρ o = .bool true) (h : WC P w0 n x Q ρ A) : WC P w0 n (.cond o x y) Q ρ A := ⟨fun w hw =>
  wp_cond_true (by rw [eval_act]; exact hc) (h.run w hw)⟩
theorem WC.ff {o : Operand} (hc : ev n ρ o = .bool false) (h : WC P w0 n y Q ρ A) : WC P w0 n (.cond o x y) Q ρ A := ⟨fun w hw =>
  wp_cond_false (by rw [eval_act]; exact hc) (h.run w hw)⟩
def Mid (w0 : World) (n : Nat) {ι : Type} (C : ι → List (Nat × Value)) (V : List (Nat × Value)) (A' : ι → List HProp) (R : ι → Prop) (a : Act) (w : World) : Prop :=
  ∃ i, R i ∧ ∃ ρ', a = act n ρ' ∧ AllC (C i) ρ' ∧ AllC V ρ' ∧ Own w0 (A' i) w
theorem set_self {C : List (Nat × Value)} {ρ : Env} (h : AllC C ρ) : ρ = setL C ρ := by
  induction C with
  | nil => rfl
  | cons kv L ih =>
    obtain ⟨k, v⟩ := kv
    obtain ⟨h1, h2⟩ := h
    have := ih h2
    funext t
    simp only [setL, set]
    cases ht : Nat.beq t k with
    | true => simp only [cond_true]; have := Nat.eq_of_beq_eq_true ht; subst this; exact h1
    | false => simp only [cond_false]; rw [← this]
theorem Mid.use {ι : Type} {C : ι → List (Nat × Value)} {V : List (Nat × Value)} {B : ι → List HProp} {R : ι → Prop} {a : Act} {w : World} (h : Mid w0 n C V B R a w) :
    ∃ i, R i ∧ ∃ ρh, a = act n (setL (C i) (setL V ρh)) ∧ Own w0 (B i) w := by
  obtain ⟨i, hi, ρ', rfl, hC, hV, hA⟩ := h
  exact ⟨i, hi, ρ', by rw [← set_self hV, ← set_self hC], hA⟩
theorem WC.cut {ι : Type} (C : ι → List (Nat × Value)) (V : List (Nat × Value)) (B : ι → List HProp) (R : ι → Prop)
    (hx : WC P w0 n x (Exit.then (Mid w0 n C V B R) Q) ρ A)
    (hy : ∀ i, R i → ∀ ρh, WC P w0 n y Q (setL (C i) (setL V ρh)) (B i)) : WC P w0 n (.seq x y) Q ρ A := ⟨fun w hw =>
  wp_seq (wp_mono (hx.run w hw) fun e a w' hq => by
    cases e with
    | normal =>
      obtain ⟨i, hi, ρh, rfl, hA⟩ := Mid.use hq
      exact (hy i hi ρh).run w' hA
    | exit _ => exact hq
    | goto _ => exact hq
    | ret => exact hq
    | panic _ => exact hq
    | outgrown => exact hq)⟩
theorem WC.cut0 (C V : List (Nat × Value)) (B : List HProp) (_ : AllC V ρ)
    (hx : WC P w0 n x (Exit.then (Mid w0 n (fun _ : Unit => C) V (fun _ => B) (fun _ => True)) Q) ρ A)
    (hy : ∀ ρh, WC P w0 n y Q (setL C (setL V ρh)) B) : WC P w0 n (.seq x y) Q ρ A := WC.cut (fun _ : Unit => C) V (fun _ => B) (fun _ => True) hx fun _ _ => hy
theorem WX.mid {ι : Type} {C : ι → List (Nat × Value)} {V : List (Nat × Value)} {B : ι → List HProp} {R : ι → Prop} (i : ι) (hR : R i) (hC : AllC (C i) ρ) (hV : AllC V ρ)
    (hA : ∀ w, Own w0 A w → Own w0 (B i) w) : WX w0 n (Exit.then (Mid w0 n C V B R) Q) .normal ρ A := ⟨fun w hw => ⟨i, hR, ρ, rfl, hC, hV, hA w hw⟩⟩
theorem WC.loop {ι : Type} (C : ι → List (Nat × Value)) (V : List (Nat × Value)) (B : ι → List HProp) (R : ι → Prop) (μ : ι → Nat) (i0 : ι)
    (hR : R i0) (hC : AllC (C i0) ρ) (hV : AllC V ρ) (hA : ∀ w, Own w0 A w → Own w0 (B i0) w)
    (round : ∀ i, R i → ∀ ρh, WC P w0 n c (Exit.then (Mid w0 n C V B (fun j => R j ∧ μ j < μ i)) Q) (setL (C i) (setL V ρh)) (B i)) : WC P w0 n (.loop c) Q ρ A := by
  refine ⟨fun w hw => ?_⟩
  have key : ∀ m i, μ i = m → R i → ∀ a w, (∃ ρh, a = act n (setL (C i) (setL V ρh)) ∧ Own w0 (B i) w) → ∀ (b : Frame) (k : List Item) (cs : List Frame),
      ∃ e a' w', Q e a' w' ∧ Arrives P (lone (b.at a (.code c :: .inLoop c :: k)) cs w) b k cs e a' w' := by
    intro m
    induction m using Nat.strongRecOn with
    | _ m ih =>
      intro i hm hi a w ⟨ρh, ha, hO⟩ b k cs
      subst ha
      obtain ⟨e, a₁, w₁, hq, harr⟩ := (round i hi ρh).run w hO b (.inLoop c :: k) cs
      cases e with
      | normal =>
        obtain ⟨j, ⟨hj, hlt⟩, ρ1, rfl, hO1⟩ := Mid.use hq
        obtain ⟨e₂, a₂, w₂, hq₂, harr₂⟩ := ih (μ j) (hm ▸ hlt) j rfl hj _ w₁ ⟨ρ1, rfl, hO1⟩ b k cs
        exact ⟨e₂, a₂, w₂, hq₂, .of_steps (Steps.trans harr (.one step_inLoop)) harr₂⟩
      | exit id => exact ⟨_, a₁, w₁, hq, .pass (x := .inLoop c) rfl (fun _ _ => .inl (by simp)) harr⟩
      | goto l => exact ⟨_, a₁, w₁, hq, .pass (x := .inLoop c) rfl (fun _ _ => .inl (by simp)) harr⟩
      | ret => exact ⟨_, a₁, w₁, hq, .pass (x := .inLoop c) rfl (fun _ _ => .inl (by simp)) harr⟩
      | panic ch => exact ⟨_, a₁, w₁, hq, .pass (x := .inLoop c) rfl (fun _ _ => .inl (by simp)) harr⟩
      | outgrown => exact ⟨_, a₁, w₁, hq, .pass (x := .inLoop c) rfl (fun _ _ => .inl (by simp)) harr⟩
  intro b k cs
  obtain ⟨e, a', w', hq, harr⟩ := key _ i0 rfl hR (act n ρ) w ⟨ρ, by rw [← set_self hV, ← set_self hC], hA w hw⟩ b k cs
  exact ⟨e, a', w', hq, .of_steps (.one step_loop) harr⟩
theorem WX.again {ι : Type} {C : ι → List (Nat × Value)} {V : List (Nat × Value)} {B : ι → List HProp} {R : ι → Prop} {μ : ι → Nat} {m : Nat} (j : ι) (hR : R j) (hμ : μ j < m) (hC : AllC (C j) ρ) (hV : AllC V ρ)
    (hA : ∀ w, Own w0 A w → Own w0 (B j) w) : WX w0 n (Exit.then (Mid w0 n C V B (fun j => R j ∧ μ j < m)) Q) .normal ρ A := ⟨fun w hw => ⟨j, ⟨hR, hμ⟩, ρ, rfl, hC, hV, hA w hw⟩⟩
def Ret (w0 : World) {ι : Type} (pr : ι → Prop) (val : ι → Value) (post : ι → List HProp) : Ending → World → Prop := fun e w => ∃ i, pr i ∧ e = .returned (val i) ∧ Own w0 (post i) w
structure Fun (P : Program) (w0 : World) (f : FuncId) (args : List Value) (A : List HProp) (R : Ending → World → Prop) : Prop where
  run : ∀ w, Own w0 A w → Calls P f args.toArray w R
theorem Fun.enter {f : FuncId} {fn : Func} {args : List Value} {R : Ending → World → Prop} (hf : P.funcs[f]? = some fn) (hb : fn.body = some c) (hn : fn.ntmps = n) (hs : Nat.ble args.length n = true)
    (h : WC P w0 n c (bodyPost P fn R) (argE args) A) : Fun P w0 f args A R := by
  refine ⟨fun w hw => ?_⟩
  refine calls_of_wp hf hb ?_
  subst hn
  have := h.run w hw
  rwa [act, ← args_arr args fn.ntmps (by simpa using hs)] at this
theorem Fun.perm {f : FuncId} {args : List Value} {R : Ending → World → Prop} (h : Fun P w0 f args A' R) (hA : ∀ w, Own w0 A w → Own w0 A' w) : Fun P w0 f args A R := ⟨fun w hw => h.run w (hA w hw)⟩
theorem Fun.mono {f : FuncId} {args : List Value} {R R' : Ending → World → Prop} (h : Fun P w0 f args A R) (hR : ∀ e w, R e w → R' e w) : Fun P w0 f args A R' := ⟨fun w hw => (h.run w hw).mono hR⟩
section
variable {ι : Type} {pr : ι → Prop} {val : ι → Value} {post : ι → List HProp} {fn : Func}
theorem arr_getD (n : Nat) (ρ : Env) (t : Nat) : (arr n ρ).getD t undef = ev n ρ (.tmp t) := by rw [← eval_act]; rfl
theorem WX.ret0 (hres : fn.results = #[]) (i : ι) (hp : pr i) (hv : val i = .tuple #[]) (hA : ∀ w, Own w0 A w → Own w0 (post i) w) : WX w0 n (bodyPost P fn (Ret w0 pr val post)) .ret ρ A :=
  ⟨fun w hw => bodyPost_ret (results_none hres _ _ _) rfl ⟨i, hp, by rw [hv], hA w hw⟩⟩
theorem WX.end0 (hres : fn.results = #[]) (i : ι) (hp : pr i) (hv : val i = .tuple #[]) (hA : ∀ w, Own w0 A w → Own w0 (post i) w) : WX w0 n (bodyPost P fn (Ret w0 pr val post)) .normal ρ A :=
  ⟨fun w hw => bodyPost_end (results_none hres _ _ _) rfl ⟨i, hp, by rw [hv], hA w hw⟩⟩
theorem WX.ret1 {t : Nat} (hres : fn.results = #[.tmp t]) (i : ι) (hp : pr i) (hv : ev n ρ (.tmp t) = val i) (hA : ∀ w, Own w0 A w → Own w0 (post i) w) : WX w0 n (bodyPost P fn (Ret w0 pr val post)) .ret ρ A :=
  ⟨fun w hw => bodyPost_ret (results_tmp hres _ _ _) rfl ⟨i, hp, by rw [← hv, ← arr_getD]; rfl, hA w hw⟩⟩
theorem WX.ret2 {t u : Nat} (hres : fn.results = #[.tmp t, .tmp u]) (i : ι) (hp : pr i) (hv : Value.tuple #[ev n ρ (.tmp t), ev n ρ (.tmp u)] = val i) (hA : ∀ w, Own w0 A w → Own w0 (post i) w) : WX w0 n (bodyPost P fn (Ret w0 pr val post)) .ret ρ A :=
  ⟨fun w hw => bodyPost_ret (results_tmp2 hres _ _ _) rfl ⟨i, hp, by rw [← hv, ← arr_getD, ← arr_getD]; rfl, hA w hw⟩⟩
theorem results_tmp3 {fn : Func} {t u s : Tmp} (h : fn.results = #[.tmp t, .tmp u, .tmp s]) (tmps : Array Value) (P : Program) (w : World) :
    (results fn tmps).run P w = .ok (.tuple #[tmps.getD t undef, tmps.getD u undef, tmps.getD s undef]) w := by
  simp [results, h]
theorem WX.ret3 {t u s : Nat} (hres : fn.results = #[.tmp t, .tmp u, .tmp s]) (i : ι) (hp : pr i) (hv : Value.tuple #[ev n ρ (.tmp t), ev n ρ (.tmp u), ev n ρ (.tmp s)] = val i) (hA : ∀ w, Own w0 A w → Own w0 (post i) w) : WX w0 n (bodyPost P fn (Ret w0 pr val post)) .ret ρ A :=
  ⟨fun w hw => bodyPost_ret (results_tmp3 hres _ _ _) rfl ⟨i, hp, by rw [← hv, ← arr_getD, ← arr_getD, ← arr_getD]; rfl, hA w hw⟩⟩
end
def Val (P : Program) (w0 : World) (n : Nat) (ρ : Env) (A : List HProp) (o : Oper) (v : Value) : Prop := ∀ w, Own w0 A w → (execOp (ev n ρ) o).run P w = .ok (.value v) w
def dstAt : List Oper → Nat → Option Tmp
  | [], _ => none
  | o :: _, 0 => o.dst
  | _ :: l, k + 1 => dstAt l k
def boolV : Value → Option Bool
  | .bool b => some b
  | _ => none
def yieldN (n : Nat) (ρ : Env) (ops : Array Oper) (g : Nat) : Option Bool := (dstAt ops.toList g).bind fun t => boolV (ev n ρ (.tmp t))
theorem dstAt_eq : ∀ (l : List Oper) (g : Nat), dstAt l g = (l[g]?).bind (·.dst)
  | [], _ => rfl
  | _ :: _, 0 => rfl
  | _ :: l, k + 1 => by simpa [dstAt] using dstAt_eq l k
theorem yielded_arr (n : Nat) (ρ : Env) (ops : Array Oper) (g : Nat) : yielded ops (arr n ρ) g = yieldN n ρ ops g := by
  unfold yielded yieldN
  rw [dstAt_eq, Array.getElem?_toList]
  cases (ops[g]?).bind (·.dst) with
  | none => rfl
  | some t =>
    simp only [← eval_act, Option.bind_some]
    show (match (arr n ρ)[t]? with | some (.bool b) => some b | _ => none) = boolV ((arr n ρ).getD t undef)
    rw [Array.getD_eq_getD_getElem?]
    cases (arr n ρ)[t]? with
    | none => rfl
    | some v => cases v <;> rfl
variable {d : Nat} {op : Op} {T : TypeId} {pos : String} {af : Array Edge} {v : Value} {g : Nat} {b : Bool}
theorem sv (hv : Val P w0 n ρ A ⟨some d, op, T, pos, af, none⟩ v) (h : WL P w0 n ops Q rest (set ρ d v) A) : WL P w0 n ops Q (⟨some d, op, T, pos, af, none⟩ :: rest) ρ A := by
  refine ⟨fun w hw => ?_⟩
  refine wpList_plain rfl fun K hK => ?_
  unfold Oper.wp
  rw [eval_act, hv w hw, Oper.upon_value, put_act]
  exact hK _ _ (h.run w hw)
theorem svg (hg : yieldN n ρ ops g = some b) (hv : Val P w0 n ρ A ⟨some d, op, T, pos, af, some (g, b)⟩ v) (h : WL P w0 n ops Q rest (set ρ d v) A) : WL P w0 n ops Q (⟨some d, op, T, pos, af, some (g, b)⟩ :: rest) ρ A := by
  refine ⟨fun w hw => ?_⟩
  refine wpList_step fun K hK => ?_
  have hw' : Region.wanted ⟨some d, op, T, pos, af, some (g, b)⟩ (yielded ops (act n ρ).tmps) = true := by
    simp only [Region.wanted, act, yielded_arr, hg, beq_self_eq_true]
  rw [if_pos hw']
  unfold Oper.wp
  rw [eval_act, hv w hw, Oper.upon_value, put_act]
  exact hK _ _ (h.run w hw)
theorem sng (hg : (yieldN n ρ ops g == some b) = false) (h : WL P w0 n ops Q rest (set ρ d undef) A) : WL P w0 n ops Q (⟨some d, op, T, pos, af, some (g, b)⟩ :: rest) ρ A := by
  refine ⟨fun w hw => ?_⟩
  refine wpList_step fun K hK => ?_
  have hw' : ¬ Region.wanted ⟨some d, op, T, pos, af, some (g, b)⟩ (yielded ops (act n ρ).tmps) = true := by
    simp only [Region.wanted, act, yielded_arr, hg]; simp
  rw [if_neg hw', put_act]
  exact hK _ _ (h.run w hw)
theorem Val.quiet {o : Oper} (hv : Val P w0 n ρ A o v) {K : Act → Prop} (h : K ((act n ρ).put o.dst v)) : o.quiet P (act n ρ) (Own w0 A) K :=
  ⟨v, fun w hw => by unfold Oper.quietAt; rw [eval_act, hv w hw]; exact ⟨rfl, rfl⟩, h⟩
theorem qv (hv : Val P w0 n ρ A ⟨some d, op, T, pos, af, none⟩ v) (h : WQ P w0 n ops Q rest (set ρ d v) A) : WQ P w0 n ops Q (⟨some d, op, T, pos, af, none⟩ :: rest) ρ A := by
  refine ⟨?_⟩
  refine wpQuiet_step fun K hK => ?_
  simp only [Region.wanted, if_true]
  exact hv.quiet (by rw [put_act]; exact hK _ h.run)
theorem qvg (hg : yieldN n ρ ops g = some b) (hv : Val P w0 n ρ A ⟨some d, op, T, pos, af, some (g, b)⟩ v) (h : WQ P w0 n ops Q rest (set ρ d v) A) : WQ P w0 n ops Q (⟨some d, op, T, pos, af, some (g, b)⟩ :: rest) ρ A := by
  refine ⟨?_⟩
  refine wpQuiet_step fun K hK => ?_
  simp only [Region.wanted, act, yielded_arr, hg, beq_self_eq_true, if_true]
  exact hv.quiet (by rw [put_act]; exact hK _ h.run)
theorem qng (hg : (yieldN n ρ ops g == some b) = false) (h : WQ P w0 n ops Q rest (set ρ d undef) A) : WQ P w0 n ops Q (⟨some d, op, T, pos, af, some (g, b)⟩ :: rest) ρ A := by
  refine ⟨?_⟩
  refine wpQuiet_step fun K hK => ?_
  simp only [Region.wanted, act, yielded_arr, hg, Bool.false_eq_true, if_false]
  have := hK _ h.run
  rwa [← put_act] at this
end
end Go.Sl
end
section
set_option linter.unusedVariables false
namespace Go.Sl
abbrev Ru (w0 : World) (v : Value) (B : List HProp) : Ending → World → Prop := Ret w0 (fun _ : Unit => True) (fun _ => v) (fun _ => B)
section
variable {P : Program} {w0 : World} {n : Nat} {ops : Array Oper} {Q Q' : Exit → Act → World → Prop} {ρ : Env} {A A' : List HProp} {x y c : Code} {l rest : List Oper}
theorem tN (h : WC P w0 n y Q' ρ A) : WX w0 n (Exit.then (y.wp P Q') Q) .normal ρ A := WX.thenN h
theorem tR {K : Act → World → Prop} (h : WX w0 n Q .ret ρ A) : WX w0 n (Exit.then K Q) .ret ρ A := WX.thenR h
theorem wR {i : Nat} (h : WL P w0 n l.toArray Q l ρ A) : WC P w0 n (.region i l.toArray false) Q ρ A := WC.region h
theorem wS (h : WC P w0 n x (Exit.then (y.wp P Q) Q) ρ A) : WC P w0 n (.seq x y) Q ρ A := WC.seq h
theorem wN (h : WX w0 n Q .normal ρ A) : WL P w0 n ops Q [] ρ A := WL.nil h
theorem xM {ι : Type} {C : ι → List (Nat × Value)} {V : List (Nat × Value)} {B : ι → List HProp} {R : ι → Prop} (i : ι) (hR : R i) (hC : AllC (C i) ρ) (hV : AllC V ρ) (hA : ∀ w, Own w0 A w → Own w0 (B i) w) : WX w0 n (Exit.then (Mid w0 n C V B R) Q) .normal ρ A := WX.mid i hR hC hV hA
theorem xR {ι : Type} {pr : ι → Prop} {val : ι → Value} {post : ι → List HProp} {fn : Func} {t : Nat} (hres : fn.results = #[.tmp t]) (i : ι) (hp : pr i) (hv : ev n ρ (.tmp t) = val i) (hA : ∀ w, Own w0 A w → Own w0 (post i) w) : WX w0 n (bodyPost P fn (Ret w0 pr val post)) .ret ρ A := WX.ret1 hres i hp hv hA
end
end Go.Sl
end
section
set_option linter.unusedVariables false
set_option linter.unusedSimpArgs false
namespace Go.Sl
open Go.RowKit
def NF (fz : Nat × Nat) (n : Nat) : Prop := fz.1 = fz.2 ∨ n ≤ fz.1
theorem NF.at_ {fz : Nat × Nat} {n : Nat} (h : NF fz n) : ∀ i, i < n → (decide (fz.1 ≤ i) && decide (i < fz.2)) = false := by
 intro i hi
 rcases h with h | h
 ·rw [h]; by_cases h2 : i < fz.2 <;> simp [h2]
 ·simp; omega
def cel (b : Nat) (vs : List Value) (e : TypeId) : HProp := fun h => ∃ fz, NF fz vs.length ∧ pt b (.cells vs.toArray e fz) h
def splice (vs : List Value) (o : Nat) (news : List Value) : List Value := vs.take o ++ news ++ vs.drop (o + news.length)
theorem splice_length {vs : List Value} {o : Nat} {news : List Value} (h : o + news.length ≤ vs.length) : (splice vs o news).length = vs.length := by
 simp [splice]; omega
structure Turned (w w' : World) (b : Nat) (o' : Obj) : Prop where
 os : w'.os = w.os
 tape : w'.tape = w.tape
 output : w'.output = w.output
 size : w'.heap.size = w.heap.size
 here : w'.heap[b]? = some o'
 else_ : ∀ k, k ≠ b → w'.heap[k]? = w.heap[k]?
theorem Own.turned {w0 w w' : World} {b : Nat} {o o' : Obj} {l : List HProp} (H : Own w0 (pt b o :: l) w) (h : Turned w w' b o') : Own w0 (pt b o' :: l) w' :=
 H.turn h.os h.tape h.output h.size h.here h.else_
theorem Own.cel {w0 w : World} {b : Nat} {vs : List Value} {e : TypeId} {l : List HProp} (H : Own w0 (cel b vs e :: l) w) : ∃ fz, NF fz vs.length ∧ Own w0 (pt b (.cells vs.toArray e fz) :: l) w := by
 obtain ⟨hb, h, ⟨h1, h2, ⟨fz, hf, a⟩, a2, d, x⟩, hw⟩ := H
 exact ⟨fz, hf, hb, h, ⟨h1, h2, a, a2, d, x⟩, hw⟩
theorem Own.intro_cel {w0 w : World} {b : Nat} {vs : List Value} {e : TypeId} {fz : Nat × Nat} {l : List HProp} (hf : NF fz vs.length) (H : Own w0 (pt b (.cells vs.toArray e fz) :: l) w) : Own w0 (Sl.cel b vs e :: l) w :=
 H.head fun _ h => ⟨fz, hf, h⟩
theorem NF.zero (n : Nat) : NF (0, 0) n := .inl rfl
theorem setCell_turned {w : World} {b off : Nat} {vs : List Value} {e : TypeId} {fz : Nat × Nat} (h : w.heap[b]? = some (.cells vs.toArray e fz)) (v : Value) :
  Turned w (w.setCell ⟨b, off, none⟩ v) b (.cells (vs.set off v).toArray e fz) := by
 refine ⟨rfl, rfl, rfl, by simp [World.setCell], ?_, fun k hk => Below.heap_setCell _ _ _ _ hk⟩
 simp [World.setCell, Array.getElem?_modify, h]
theorem Turned.trans {w w1 w2 : World} {b : Nat} {o1 o2 : Obj} (h : Turned w w1 b o1) (k : Turned w1 w2 b o2) : Turned w w2 b o2 :=
 ⟨k.os.trans h.os, k.tape.trans h.tape, k.output.trans h.output, k.size.trans h.size, k.here, fun x hx => (k.else_ x hx).trans (h.else_ x hx)⟩
theorem cell_cel {w : World} {b : Nat} {vs : List Value} {e : TypeId} {fz : Nat × Nat} (h : w.heap[b]? = some (.cells vs.toArray e fz)) (i : Nat) : w.cell? ⟨b, i, none⟩ = vs[i]? := by
 simp [World.cell?, h]
theorem frozen_cel {w : World} {b : Nat} {vs : List Value} {e : TypeId} {fz : Nat × Nat} (h : w.heap[b]? = some (.cells vs.toArray e fz)) (hf : NF fz vs.length) (i : Nat) (hi : i < vs.length) : w.frozen? ⟨b, i, none⟩ = false := by
 obtain ⟨lo, hi'⟩ := fz
 simpa [World.frozen?, h] using hf.at_ i hi
theorem run_store_cel {P : Program} {w : World} {b off : Nat} {vs : List Value} {e : TypeId} {fz : Nat × Nat} (h : w.heap[b]? = some (.cells vs.toArray e fz)) (hf : NF fz vs.length) (ho : off < vs.length) {v : Value} (hv : v.oneCell' = true) :
  (store ⟨b, off, none⟩ v).run P w = .ok () (w.setCell ⟨b, off, none⟩ v) := by
 rw [run_store P w _ v _ hv, cell_cel h, frozen_cel h hf off ho]
 simp [List.getElem?_eq_getElem ho]
theorem run_storeCells_cel {P : Program} {b o : Nat} {e : TypeId} {fz : Nat × Nat} : ∀ (news : List Value) (i : Nat) (vs : List Value) (w : World), w.heap[b]? = some (.cells vs.toArray e fz) → NF fz vs.length →
  o + i + news.length ≤ vs.length → (∀ v ∈ news, v.oneCell' = true) → ∃ w', (storeCells ⟨b, o, none⟩ news i).run P w = .ok () w' ∧ Turned w w' b (.cells (splice vs (o + i) news).toArray e fz)
 | [], i, vs, w, h, _, _, _ => ⟨w, rfl, rfl, rfl, rfl, rfl, by simpa [splice] using h, fun _ _ => rfl⟩
 | v :: r, i, vs, w, h, hf, hl, h1 => by
  simp only [List.length_cons] at hl
  have hadd : (⟨b, o, none⟩ : Addr).add i = ⟨b, o + i, none⟩ := by unfold Addr.add; split <;> simp_all
  have hst : (store ((⟨b, o, none⟩ : Addr).add i) v).run P w = .ok () (w.setCell ⟨b, o + i, none⟩ v) := by
   rw [hadd]; exact run_store_cel h hf (Nat.lt_of_lt_of_le (by omega) hl) (h1 v (by simp))
  have ht := setCell_turned (off := o + i) h v
  obtain ⟨w', hr, hw'⟩ := run_storeCells_cel (P := P) (o := o) r (i + 1) (vs.set (o + i) v) _ ht.here (by simpa using hf) (by simp; omega) (fun x hx => h1 x (by simp [hx]))
  refine ⟨w', by simp only [storeCells, Sem.run_bind, hst, Result.andThen_ok, hr], ?_⟩
  have he : splice (vs.set (o + i) v) (o + (i + 1)) r = splice vs (o + i) (v :: r) := by
   unfold splice
   apply List.ext_getElem?
   intro j
   simp only [List.getElem?_append, List.length_append, List.length_take, List.length_set, List.getElem?_take, List.getElem?_drop, List.getElem?_set, List.length_cons, List.getElem?_cons]
   repeat' split
   all_goals (try omega)
   all_goals (try rfl)
   all_goals (try (congr 1; omega))
  rw [he] at hw'
  exact ht.trans hw'
def Rd (w : World) (base : Option Addr) (vs : List Value) : Prop := ∀ j v, vs[j]? = some v → ∃ a, base = some a ∧ w.cell? (a.add j) = some v
def RdC (w0 : World) (A : List HProp) (base : Option Addr) (vs : List Value) : Prop := ∀ w, Own w0 A w → Rd w base vs
def CellC (w0 : World) (A : List HProp) (a : Option Addr) (v : Value) : Prop := ∀ w, Own w0 A w → ∃ ad, a = some ad ∧ w.cell? ad = some v
theorem add_at (g o j : Nat) : (⟨g, o, none⟩ : Addr).add j = ⟨g, o + j, none⟩ := by unfold Addr.add; split <;> simp_all
theorem add_add (a : Addr) (j k : Nat) : (a.add j).add k = a.add (j + k) := by
 unfold Addr.add
 by_cases hj : j = 0 <;> by_cases hk : k = 0 <;> simp [hj, hk] <;> omega
section
variable {w0 w : World} {A A' : List HProp} {base : Option Addr} {vs : List Value} {X : HProp}
theorem RdC.mono (h : RdC w0 A base vs) (hA : ∀ w, Own w0 A' w → Own w0 A w) : RdC w0 A' base vs := fun w hw => h w (hA w hw)
theorem RdC.cons (h : RdC w0 A base vs) : RdC w0 (X :: A) base vs := fun w hw => h w hw.tail
theorem RdC.nil : RdC w0 A base [] := fun w _ j v h => by simp at h
theorem RdC.drop (h : RdC w0 A base vs) (k : Nat) : RdC w0 A (base.map (·.add k)) (vs.drop k) := fun w hw j v hv => by
 rw [List.getElem?_drop] at hv
 obtain ⟨a, ha, hc⟩ := h w hw _ _ hv
 exact ⟨a.add k, by simp [ha], by rw [add_add]; exact hc⟩
theorem RdC.take (h : RdC w0 A base vs) (k : Nat) : RdC w0 A base (vs.take k) := fun w hw j v hv => by
 rw [List.getElem?_take] at hv
 split at hv
 ·exact h w hw _ _ hv
 ·cases hv
theorem RdC.cell (h : RdC w0 A base vs) {j : Nat} {v : Value} (hj : vs[j]? = some v) : CellC w0 A (base.map (·.add j)) v := fun w hw => by
 obtain ⟨a, ha, hc⟩ := h w hw j v hj
 exact ⟨a.add j, by simp [ha], hc⟩
theorem CellC.of_cel {b : Nat} {e : TypeId} {i : Nat} {v : Value} (hm : cel b vs e ∈ A) (hi : vs[i]? = some v) : CellC w0 A (some ⟨b, i, none⟩) v := fun w hw => by
 obtain ⟨R, h⟩ := hw.mem hm
 obtain ⟨fz, _, h⟩ := h.cel
 exact ⟨_, rfl, by rw [cell_cel h.heap.1]; exact hi⟩
theorem RdC.of_cel {b : Nat} {e : TypeId} {ws : List Value} (o : Nat) (hm : cel b ws e ∈ A) (hp : vs <+: ws.drop o) : RdC w0 A (some ⟨b, o, none⟩) vs := fun w hw j v hv => by
 obtain ⟨R, h⟩ := hw.mem hm
 obtain ⟨fz, _, h⟩ := h.cel
 refine ⟨_, rfl, ?_⟩
 rw [add_at, cell_cel h.heap.1]
 obtain ⟨t, ht⟩ := hp
 have hl : j < vs.length := (List.getElem?_eq_some_iff.1 hv).1
 have : (ws.drop o)[j]? = some v := by rw [← ht, List.getElem?_append_left hl]; exact hv
 rwa [List.getElem?_drop] at this
theorem RdC.old (h : Rd w0 base vs) : RdC w0 A base vs := fun w hw j v hv => by
 obtain ⟨a, ha, hc⟩ := h j v hv
 exact ⟨a, ha, (hw.below.cell (World.block_lt_of_cell? w0 _ hc)).trans hc⟩
end
def plainT (P : Program) (t : TypeId) : Bool := match P.underlying t with
 | some (.struct _) | some (.array ..) | none => false
 | _ => true
theorem run_isAgg_of {P : Program} {t : TypeId} (h : plainT P t = true) (w : World) : (isAgg t).run P w = .ok false w := by
 unfold plainT at h
 unfold isAgg
 cases hd : P.underlying t with
 | none => simp [hd] at h
 | some d => cases d <;> simp [hd] at h <;> simp [run_underlying hd]
def aggT (P : Program) (t : TypeId) : Bool := match P.underlying t with
 | some (.struct _) | some (.array ..) => true
 | _ => false
theorem run_isAgg_agg {P : Program} {t : TypeId} (h : aggT P t = true) (w : World) : (isAgg t).run P w = .ok true w := by
 unfold aggT at h
 unfold isAgg
 cases hd : P.underlying t with
 | none => simp [hd] at h
 | some d => cases d <;> simp [hd] at h <;> simp [run_underlying hd]
def sizeT (P : Program) (t : TypeId) (s : Nat) : Bool := match P.info? t with
 | some i => Nat.beq i.size s
 | none => false
theorem run_sizeOf_of {P : Program} {t : TypeId} {s : Nat} (h : sizeT P t s = true) (w : World) : (sizeOf t).run P w = .ok s w := by
 unfold sizeT at h
 cases hd : P.info? t with
 | none => simp [hd] at h
 | some i => simp [hd] at h; simp [sizeOf, typeInfo, hd, h]
def fieldT (P : Program) (s f off : Nat) : Bool := match P.underlying s with
 | some (.struct fs) => match fs[f]? with
  | some x => Nat.beq x.offset off && (match P.info? x.type with | some i => !(Nat.beq i.size 0) | none => false)
  | none => false
 | _ => false
theorem run_fieldAt_of {P : Program} {s f off : Nat} (h : fieldT P s f off = true) (a : Addr) (w : World) : (Instr.fieldAt s (.pointer (some a)) f).run P w = .ok (.pointer (some (a.add off))) w := by
 unfold fieldT at h
 split at h
 ·rename_i fs hd
  split at h
  ·rename_i x hx
   rw [Bool.and_eq_true] at h
   obtain ⟨h1, h2⟩ := h
   have h1 := Nat.eq_of_beq_eq_true h1
   cases hi : P.info? x.type with
   | none => rw [hi] at h2; cases h2
   | some i =>
    rw [hi] at h2
    have h3 : ¬ i.size = 0 := by
     intro h0; simp [h0] at h2
    simp [Instr.fieldAt, run_underlying hd, hx, Instr.sureAddr, fieldPlace, sizeOf, typeInfo, hi, h3, h1]
  ·cases h
 ·cases h
def callT (P : Program) (f : FuncId) : Bool := match P.funcs[f]? with
 | some fn => !(fn.name == "runtime.NumGoroutine") && !fn.body.isNone
 | none => false
theorem run_callFunc_of {P : Program} {f : FuncId} (h : callT P f = true) (args : Array Value) (w : World) : (callFunc f args).run P w = .ok (.enter f args) w := by
 unfold callT at h
 split at h
 ·rename_i fn hf
  simp only [Bool.and_eq_true, Bool.not_eq_true'] at h
  simp only [callFunc, Sem.run_bind, run_program, Result.andThen_ok, hf, h.1, h.2, Bool.false_eq_true, if_false]
  rfl
 ·cases h
section
variable {P : Program} {w0 : World} {n : Nat} {ρ : Env} {A : List HProp} {d : Option Tmp} {T : TypeId} {pos : String} {af : Array Edge} {g : Option (Nat × Bool)}
theorem vmv {x : Operand} : Val P w0 n ρ A ⟨d, .move x, T, pos, af, g⟩ (ev n ρ x) := fun _ _ => rfl
theorem vas {x : Operand} : Val P w0 n ρ A ⟨d, .assign x, T, pos, af, g⟩ (ev n ρ x) := fun _ _ => rfl
theorem vmI {x : Operand} {k : IntKind} {a : Int} (hx : ev n ρ x = .int k a) : Val P w0 n ρ A ⟨d, .move x, T, pos, af, g⟩ (.int k a) := hx ▸ vmv
theorem vmS {x : Operand} {a : Option Addr} {l c : Nat} (hx : ev n ρ x = .slice a l c) : Val P w0 n ρ A ⟨d, .move x, T, pos, af, g⟩ (.slice a l c) := hx ▸ vmv
theorem vmP {x : Operand} {a : Option Addr} (hx : ev n ρ x = .pointer a) : Val P w0 n ρ A ⟨d, .move x, T, pos, af, g⟩ (.pointer a) := hx ▸ vmv
theorem vmB {x : Operand} {b : Bool} (hx : ev n ρ x = .bool b) : Val P w0 n ρ A ⟨d, .move x, T, pos, af, g⟩ (.bool b) := hx ▸ vmv
theorem vmT {x : Operand} {s : ByteArray} (hx : ev n ρ x = .string s) : Val P w0 n ρ A ⟨d, .move x, T, pos, af, g⟩ (.string s) := hx ▸ vmv
theorem vmM {x : Operand} {m : Option Nat} (hx : ev n ρ x = .map m) : Val P w0 n ρ A ⟨d, .move x, T, pos, af, g⟩ (.map m) := hx ▸ vmv
theorem vmF {x : Operand} {f : Fn} {a c : Array Value} (hx : ev n ρ x = .func f a c) : Val P w0 n ρ A ⟨d, .move x, T, pos, af, g⟩ (.func f a c) := hx ▸ vmv
theorem vaI {x : Operand} {k : IntKind} {a : Int} (hx : ev n ρ x = .int k a) : Val P w0 n ρ A ⟨d, .assign x, T, pos, af, g⟩ (.int k a) := hx ▸ vas
theorem vaS {x : Operand} {a : Option Addr} {l c : Nat} (hx : ev n ρ x = .slice a l c) : Val P w0 n ρ A ⟨d, .assign x, T, pos, af, g⟩ (.slice a l c) := hx ▸ vas
theorem vaP {x : Operand} {a : Option Addr} (hx : ev n ρ x = .pointer a) : Val P w0 n ρ A ⟨d, .assign x, T, pos, af, g⟩ (.pointer a) := hx ▸ vas
theorem vaB {x : Operand} {b : Bool} (hx : ev n ρ x = .bool b) : Val P w0 n ρ A ⟨d, .assign x, T, pos, af, g⟩ (.bool b) := hx ▸ vas
theorem vaT {x : Operand} {s : ByteArray} (hx : ev n ρ x = .string s) : Val P w0 n ρ A ⟨d, .assign x, T, pos, af, g⟩ (.string s) := hx ▸ vas
theorem vaM {x : Operand} {m : Option Nat} (hx : ev n ρ x = .map m) : Val P w0 n ρ A ⟨d, .assign x, T, pos, af, g⟩ (.map m) := hx ▸ vas
theorem vaF {x : Operand} {f : Fn} {a c : Array Value} (hx : ev n ρ x = .func f a c) : Val P w0 n ρ A ⟨d, .assign x, T, pos, af, g⟩ (.func f a c) := hx ▸ vas
theorem vlen {t e : TypeId} {x : Operand} {a : Option Addr} {l c : Nat} (ht : P.underlying t = some (.slice e)) (hx : ev n ρ x = .slice a l c) :
  Val P w0 n ρ A ⟨d, .call ⟨.builtin .len, #[x], #[t]⟩, T, pos, af, g⟩ (.int .i64 l) := fun w _ => by
 simp [execOp, resolve, invoke, builtin, Builtin.len_, run_underlying ht, hx, goInt]
theorem vlens {t : TypeId} {x : Operand} {s : ByteArray} (ht : P.underlying t = some .string) (hx : ev n ρ x = .string s) :
  Val P w0 n ρ A ⟨d, .call ⟨.builtin .len, #[x], #[t]⟩, T, pos, af, g⟩ (.int .i64 s.size) := fun w _ => by
 simp [execOp, resolve, invoke, builtin, Builtin.len_, run_underlying ht, hx, goInt]
theorem vmin {x y : Operand} {ts : Array TypeId} {k : IntKind} {a b : Int} (hx : ev n ρ x = .int k a) (hy : ev n ρ y = .int k b) :
  Val P w0 n ρ A ⟨d, .call ⟨.builtin .min, #[x, y], ts⟩, T, pos, af, g⟩ (.int k (min a b)) := fun w _ => by
 simp only [execOp, resolve, invoke, builtin, Builtin.min_, Builtin.min2, hx, hy, List.map_toArray, List.map_cons, List.map_nil, Sem.run_bind, Sem.run_pure, Result.andThen_ok, List.foldlM_cons, List.foldlM_nil]
 have : (if b < a then b else a) = min a b := by omega
 simp [this]
theorem vmax {x y : Operand} {ts : Array TypeId} {k : IntKind} {a b : Int} (hx : ev n ρ x = .int k a) (hy : ev n ρ y = .int k b) :
  Val P w0 n ρ A ⟨d, .call ⟨.builtin .max, #[x, y], ts⟩, T, pos, af, g⟩ (.int k (max a b)) := fun w _ => by
 simp only [execOp, resolve, invoke, builtin, Builtin.max_, Builtin.max2, hx, hy, List.map_toArray, List.map_cons, List.map_nil, Sem.run_bind, Sem.run_pure, Result.andThen_ok, List.foldlM_cons, List.foldlM_nil]
 have : (if b > a then b else a) = max a b := by omega
 simp [this]
variable {x y : Operand} {t t2 : TypeId} {k : IntKind} {a b : Int}
theorem wrap64_in {a : Int} (h : -9223372036854775808 ≤ a ∧ a ≤ 9223372036854775807) : IntKind.i64.wrap a = a := IntWalk.i64_in a h
theorem vaddr (hx : ev n ρ x = .int k a) (hy : ev n ρ y = .int k b) : Val P w0 n ρ A ⟨d, .binOp .add t x y t2, T, pos, af, g⟩ (.int k (k.wrap (a + b))) := fun w _ => by
 simp [execOp, hx, hy, eqGuard_add, binOp, Op.intArith]
theorem vsubr (hx : ev n ρ x = .int k a) (hy : ev n ρ y = .int k b) : Val P w0 n ρ A ⟨d, .binOp .sub t x y t2, T, pos, af, g⟩ (.int k (k.wrap (a - b))) := fun w _ => by
 simp [execOp, hx, hy, eqGuard_sub, binOp, Op.intArith]
theorem vmulr (hx : ev n ρ x = .int k a) (hy : ev n ρ y = .int k b) : Val P w0 n ρ A ⟨d, .binOp .mul t x y t2, T, pos, af, g⟩ (.int k (k.wrap (a * b))) := fun w _ => by
 simp [execOp, hx, hy, eqGuard_mul, binOp, Op.intArith]
theorem vadd (hx : ev n ρ x = .int .i64 a) (hy : ev n ρ y = .int .i64 b) (h : -9223372036854775808 ≤ a + b ∧ a + b ≤ 9223372036854775807) : Val P w0 n ρ A ⟨d, .binOp .add t x y t2, T, pos, af, g⟩ (.int .i64 (a + b)) := by
 have := vaddr (P := P) (w0 := w0) (A := A) (d := d) (T := T) (pos := pos) (af := af) (g := g) (t := t) (t2 := t2) hx hy
 rwa [wrap64_in h] at this
theorem vsub (hx : ev n ρ x = .int .i64 a) (hy : ev n ρ y = .int .i64 b) (h : -9223372036854775808 ≤ a - b ∧ a - b ≤ 9223372036854775807) : Val P w0 n ρ A ⟨d, .binOp .sub t x y t2, T, pos, af, g⟩ (.int .i64 (a - b)) := by
 have := vsubr (P := P) (w0 := w0) (A := A) (d := d) (T := T) (pos := pos) (af := af) (g := g) (t := t) (t2 := t2) hx hy
 rwa [wrap64_in h] at this
theorem vmul (hx : ev n ρ x = .int .i64 a) (hy : ev n ρ y = .int .i64 b) (h : -9223372036854775808 ≤ a * b ∧ a * b ≤ 9223372036854775807) : Val P w0 n ρ A ⟨d, .binOp .mul t x y t2, T, pos, af, g⟩ (.int .i64 (a * b)) := by
 have := vmulr (P := P) (w0 := w0) (A := A) (d := d) (T := T) (pos := pos) (af := af) (g := g) (t := t) (t2 := t2) hx hy
 rwa [wrap64_in h] at this
theorem vquo (hx : ev n ρ x = .int k a) (hy : ev n ρ y = .int k b) (h0 : b ≠ 0) : Val P w0 n ρ A ⟨d, .binOp .quo t x y t2, T, pos, af, g⟩ (.int k (k.wrap (a.tdiv b))) := fun w _ => by
 simp [execOp, hx, hy, eqGuard_quo, binOp, Op.intDiv, h0]
theorem vrem (hx : ev n ρ x = .int k a) (hy : ev n ρ y = .int k b) (h0 : b ≠ 0) : Val P w0 n ρ A ⟨d, .binOp .rem t x y t2, T, pos, af, g⟩ (.int k (a.tmod b)) := fun w _ => by
 simp [execOp, hx, hy, eqGuard_rem, binOp, Op.intDiv, h0]
theorem beq_dec (a b : Int) : (a == b) = decide (a = b) := by rw [Bool.eq_iff_iff, beq_iff_eq, decide_eq_true_iff]
theorem veq (hx : ev n ρ x = .int k a) (hy : ev n ρ y = .int k b) : Val P w0 n ρ A ⟨d, .binOp .eql t x y t2, T, pos, af, g⟩ (.bool (decide (a = b))) := fun w _ => by
 simp only [execOp, hx, hy, eqGuard_at_int, binOp, Op.intCmp, beq_dec, ne_eq, not_true_eq_false, if_false]
 rfl
theorem vne (hx : ev n ρ x = .int k a) (hy : ev n ρ y = .int k b) : Val P w0 n ρ A ⟨d, .binOp .neq t x y t2, T, pos, af, g⟩ (.bool (decide (a ≠ b))) := fun w _ => by
 simp [execOp, hx, hy, eqGuard_at_int, binOp, Op.intCmp, bne, beq_dec]
theorem vlt (hx : ev n ρ x = .int k a) (hy : ev n ρ y = .int k b) : Val P w0 n ρ A ⟨d, .binOp .lss t x y t2, T, pos, af, g⟩ (.bool (decide (a < b))) := fun w _ => by
 simp [execOp, hx, hy, eqGuard_lss, binOp, Op.intCmp]
theorem vle (hx : ev n ρ x = .int k a) (hy : ev n ρ y = .int k b) : Val P w0 n ρ A ⟨d, .binOp .leq t x y t2, T, pos, af, g⟩ (.bool (decide (a ≤ b))) := fun w _ => by
 simp [execOp, hx, hy, eqGuard_leq, binOp, Op.intCmp]
theorem vgt (hx : ev n ρ x = .int k a) (hy : ev n ρ y = .int k b) : Val P w0 n ρ A ⟨d, .binOp .gtr t x y t2, T, pos, af, g⟩ (.bool (decide (b < a))) := fun w _ => by
 simp [execOp, hx, hy, eqGuard_gtr, binOp, Op.intCmp]
theorem vge (hx : ev n ρ x = .int k a) (hy : ev n ρ y = .int k b) : Val P w0 n ρ A ⟨d, .binOp .geq t x y t2, T, pos, af, g⟩ (.bool (decide (b ≤ a))) := fun w _ => by
 simp [execOp, hx, hy, eqGuard_geq, binOp, Op.intCmp]
def bAnd (k : IntKind) (a b : Int) : Int := k.wrap (BitVec.ofInt k.bits a &&& BitVec.ofInt k.bits b).toNat
def bOr (k : IntKind) (a b : Int) : Int := k.wrap (BitVec.ofInt k.bits a ||| BitVec.ofInt k.bits b).toNat
def bXor (k : IntKind) (a b : Int) : Int := k.wrap (BitVec.ofInt k.bits a ^^^ BitVec.ofInt k.bits b).toNat
def bShl (k : IntKind) (a b : Int) : Int := k.wrap (a * 2 ^ (min b.toNat k.bits))
def bShr (k : IntKind) (a b : Int) : Int := a.fdiv (2 ^ (min b.toNat k.bits))
theorem vand (hx : ev n ρ x = .int k a) (hy : ev n ρ y = .int k b) : Val P w0 n ρ A ⟨d, .binOp .and t x y t2, T, pos, af, g⟩ (.int k (bAnd k a b)) := fun w _ => by
 simp [execOp, hx, hy, eqGuard_and, binOp, Op.intBits, bAnd]
theorem vor (hx : ev n ρ x = .int k a) (hy : ev n ρ y = .int k b) : Val P w0 n ρ A ⟨d, .binOp .or t x y t2, T, pos, af, g⟩ (.int k (bOr k a b)) := fun w _ => by
 simp [execOp, hx, hy, eqGuard_or, binOp, Op.intBits, bOr]
theorem vxor (hx : ev n ρ x = .int k a) (hy : ev n ρ y = .int k b) : Val P w0 n ρ A ⟨d, .binOp .xor t x y t2, T, pos, af, g⟩ (.int k (bXor k a b)) := fun w _ => by
 simp [execOp, hx, hy, eqGuard_xor, binOp, Op.intBits, bXor]
theorem vshl {k2 : IntKind} (hx : ev n ρ x = .int k a) (hy : ev n ρ y = .int k2 b) (h0 : 0 ≤ b) : Val P w0 n ρ A ⟨d, .binOp .shl t x y t2, T, pos, af, g⟩ (.int k (bShl k a b)) := fun w _ => by
 have : ¬ b < 0 := by omega
 simp [execOp, hx, hy, eqGuard_shl, binOp, Op.shift, this, bShl]
theorem vshr {k2 : IntKind} (hx : ev n ρ x = .int k a) (hy : ev n ρ y = .int k2 b) (h0 : 0 ≤ b) : Val P w0 n ρ A ⟨d, .binOp .shr t x y t2, T, pos, af, g⟩ (.int k (bShr k a b)) := fun w _ => by
 have : ¬ b < 0 := by omega
 simp [execOp, hx, hy, eqGuard_shr, binOp, Op.shift, this, bShr]
theorem vneg (hx : ev n ρ x = .int k a) : Val P w0 n ρ A ⟨d, .unOp .neg t x, T, pos, af, g⟩ (.int k (k.wrap (0 - a))) := fun w _ => by
 simp [execOp, hx, Op.unary, Op.intArith]
theorem vcom (hx : ev n ρ x = .int k a) : Val P w0 n ρ A ⟨d, .unOp .xor t x, T, pos, af, g⟩ (.int k (bXor k (if k.signed then -1 else k.max) a)) := fun w _ => by
 simp [execOp, hx, Op.unary, Op.intBits, bXor]
theorem vcv {src dst : TypeId} {k2 : IntKind} (hs : (P.underlying src).isSome = true) (hd : P.underlying dst = some (.int k)) (hx : ev n ρ x = .int k2 a) : Val P w0 n ρ A ⟨d, .convert src dst x, T, pos, af, g⟩ (.int k (k.wrap a)) := fun w _ => by
 obtain ⟨ds, hds⟩ := Option.isSome_iff_exists.1 hs
 cases ds <;> simp [execOp, hx, convert, run_underlying hds, run_underlying hd, Conv.intToInt]
variable {p q : Bool}
theorem vnot (hx : ev n ρ x = .bool p) : Val P w0 n ρ A ⟨d, .unOp .not t x, T, pos, af, g⟩ (.bool (!p)) := fun w _ => by
 simp [execOp, hx, Op.unary]
theorem vpkt {c : Operand} (hc : ev n ρ c = .bool true) : Val P w0 n ρ A ⟨d, .pick c x y, T, pos, af, g⟩ (ev n ρ x) := fun w _ => by
 simp [execOp, hc, asBool]
theorem vpkf {c : Operand} (hc : ev n ρ c = .bool false) : Val P w0 n ρ A ⟨d, .pick c x y, T, pos, af, g⟩ (ev n ρ y) := fun w _ => by
 simp [execOp, hc, asBool]
theorem run_eqb {t : TypeId} (ht : P.underlying t = some .bool) (a b : Bool) (w : World) : (Op.equal t (.bool a) (.bool b)).run P w = .ok (a == b) w := run_equal_bool w t a b ht
theorem run_eqp {t e : TypeId} (ht : P.underlying t = some (.pointer e)) (m : Option Addr) (w : World) : (Op.equal t (.pointer m) (.pointer none)).run P w = .ok m.isNone w := by
 show (Op.equalIn (9999 + 1) t (.pointer m) (.pointer none)).run P w = _
 generalize 9999 = N
 cases m <;> simp [Op.equalIn, run_underlying ht]
theorem veqb (ht : P.underlying t = some .bool) (hx : ev n ρ x = .bool p) (hy : ev n ρ y = .bool q) : Val P w0 n ρ A ⟨d, .binOp .eql t x y t2, T, pos, af, g⟩ (.bool (decide (p = q))) := fun w _ => by
 cases p <;> cases q <;> simp [execOp, hx, hy, eqGuard_at_bool, binOp, run_eqb ht]
theorem vneb (ht : P.underlying t = some .bool) (hx : ev n ρ x = .bool p) (hy : ev n ρ y = .bool q) : Val P w0 n ρ A ⟨d, .binOp .neq t x y t2, T, pos, af, g⟩ (.bool (decide (p ≠ q))) := fun w _ => by
 cases p <;> cases q <;> simp [execOp, hx, hy, eqGuard_at_bool, binOp, run_eqb ht]
variable {s r : ByteArray}
theorem toList_inj {s r : ByteArray} : s.toList = r.toList ↔ s = r := by
 rw [ByteArray.toList_eq, ByteArray.toList_eq]
 constructor
 ·intro h; apply ByteArray.ext; exact Array.toList_inj.1 h
 ·rintro rfl; rfl
theorem veqs (hx : ev n ρ x = .string s) (hy : ev n ρ y = .string r) : Val P w0 n ρ A ⟨d, .binOp .eql t x y t2, T, pos, af, g⟩ (.bool (decide (s = r))) := fun w _ => by
 have : (s.toList == r.toList) = decide (s = r) := by rw [Bool.eq_iff_iff]; simp [toList_inj]
 simp [execOp, hx, hy, eqGuard_at_string, binOp, Op.stringOp, this]
theorem vnes (hx : ev n ρ x = .string s) (hy : ev n ρ y = .string r) : Val P w0 n ρ A ⟨d, .binOp .neq t x y t2, T, pos, af, g⟩ (.bool (decide (s ≠ r))) := fun w _ => by
 have : (s.toList == r.toList) = decide (s = r) := by rw [Bool.eq_iff_iff]; simp [toList_inj]
 simp [execOp, hx, hy, eqGuard_at_string, binOp, Op.stringOp, this]
theorem vlts (hx : ev n ρ x = .string s) (hy : ev n ρ y = .string r) : Val P w0 n ρ A ⟨d, .binOp .lss t x y t2, T, pos, af, g⟩ (.bool (Op.bytesLess s.toList r.toList)) := fun w _ => by
 simp [execOp, hx, hy, eqGuard_at_string, binOp, Op.stringOp]
theorem vixs {k : IntKind} {i : Int} {c : UInt8} (ht : P.underlying t = some .string) (hx : ev n ρ x = .string s) (hy : ev n ρ y = .int k i) (h0 : 0 ≤ i) (hi : s[i.toNat]? = some c) : Val P w0 n ρ A ⟨d, .index t x y, T, pos, af, g⟩ (.int .u8 c.toNat) := fun w _ => by
 simp [execOp, hx, hy, Instr.index, asIntOf, run_underlying ht, h0, hi]
variable {ad : Addr} {m : Option Addr}
theorem vnil (hx : ev n ρ x = .pointer (some ad)) : Val P w0 n ρ A ⟨d, .nilCheck x, T, pos, af, g⟩ (.pointer (some ad)) := fun w _ => by
 simp [execOp, hx]
theorem vpeq {e : TypeId} (ht : P.underlying t = some (.pointer e)) (hx : ev n ρ x = .pointer m) (hy : ev n ρ y = .pointer none) : Val P w0 n ρ A ⟨d, .binOp .eql t x y t2, T, pos, af, g⟩ (.bool m.isNone) := fun w _ => by
 cases m <;> simp [execOp, hx, hy, eqGuard_at_pointer, binOp, run_eqp ht]
theorem vpne {e : TypeId} (ht : P.underlying t = some (.pointer e)) (hx : ev n ρ x = .pointer m) (hy : ev n ρ y = .pointer none) : Val P w0 n ρ A ⟨d, .binOp .neq t x y t2, T, pos, af, g⟩ (.bool m.isSome) := fun w _ => by
 cases m <;> simp [execOp, hx, hy, eqGuard_at_pointer, binOp, run_eqp ht]
theorem vfld {f off : Nat} (hf : fieldT P t f off = true) (hx : ev n ρ x = .pointer (some ad)) : Val P w0 n ρ A ⟨d, .fieldAddr t x f, T, pos, af, g⟩ (.pointer (some (ad.add off))) := fun w _ => by
 simp [execOp, hx, run_fieldAt_of hf]
theorem vld {v : Value} (ht : plainT P t = true) (hx : ev n ρ x = .pointer m) (hc : CellC w0 A m v) : Val P w0 n ρ A ⟨d, .load t x, T, pos, af, g⟩ v := fun w hw => by
 obtain ⟨a, rfl, ha⟩ := hc w hw
 simp [execOp, hx, Instr.loadAt, Instr.sureAddr, loadVar, run_isAgg_of ht, ha]
theorem vfn {f : FuncId} {cl : List Operand} {vs : List Value} (hv : cl.map (ev n ρ) = vs) : Val P w0 n ρ A ⟨d, .makeFunc (.func f) #[] cl.toArray, T, pos, af, g⟩ (.func (.func f) #[] vs.toArray) := fun w _ => by
 subst hv
 simp [execOp, Instr.makeFunc]
theorem vex {i : Nat} {vs : Array Value} {v : Value} (hx : ev n ρ x = .tuple vs) (hi : vs[i]? = some v) : Val P w0 n ρ A ⟨d, .extract x i, T, pos, af, g⟩ v := fun w _ => by
 simp [execOp, hx, Instr.extract, hi]
variable {e : TypeId} {base : Option Addr} {l c sz : Nat} {vs : List Value}
theorem vix {i : Int} (ht : P.underlying t = some (.slice e)) (hs : sizeT P e sz = true) (hx : ev n ρ x = .slice base l c) (hy : ev n ρ y = .int k i) (h0 : 0 ≤ i) (h1 : i < l) (hb : RdC w0 A base vs) (hl : 0 < vs.length) :
  Val P w0 n ρ A ⟨d, .indexAddr t x y, T, pos, af, g⟩ (.pointer (base.map (·.add (i.toNat * sz)))) := fun w hw => by
 obtain ⟨a, rfl, _⟩ := hb w hw 0 _ (List.getElem?_eq_getElem hl)
 simp [execOp, hx, hy, Instr.indexAt, asIntOf, run_underlying ht, h0, h1, run_sizeOf_of hs]
theorem vix1 {i : Int} (ht : P.underlying t = some (.slice e)) (hs : sizeT P e 1 = true) (hx : ev n ρ x = .slice base l c) (hy : ev n ρ y = .int k i) (h0 : 0 ≤ i) (h1 : i < l) (hb : RdC w0 A base vs) (hl : 0 < vs.length) :
  Val P w0 n ρ A ⟨d, .indexAddr t x y, T, pos, af, g⟩ (.pointer (base.map (·.add i.toNat))) := by
 have := vix (P := P) (w0 := w0) (A := A) (d := d) (T := T) (pos := pos) (af := af) (g := g) ht hs hx hy h0 h1 hb hl
 simpa using this
def slB (base : Option Addr) (lo m s : Nat) : Option Addr := if m = lo then base else base.map (·.add (lo * s))
theorem vslL {k : IntKind} {lo : Int} (ht : P.underlying t = some (.slice e)) (hs : sizeT P e sz = true) (hx : ev n ρ x = .slice base l c) (hlo : ev n ρ y = .int k lo) (h0 : 0 ≤ lo) (h1 : lo ≤ l) :
  Val P w0 n ρ A ⟨d, .slice t x (some y) none none, T, pos, af, g⟩ (.slice (slB base lo.toNat c sz) (l - lo.toNat) (c - lo.toNat)) := fun w hw => by
 simp [execOp, hx, hlo, Instr.sliceAt, run_underlying ht, Instr.slice, Instr.sliceBounds, Instr.sliceBound, asIntOf, h0, h1, run_sizeOf_of hs, slB]
theorem vslH {k : IntKind} {hi : Int} (ht : P.underlying t = some (.slice e)) (hs : sizeT P e sz = true) (hx : ev n ρ x = .slice base l c) (hhi : ev n ρ y = .int k hi) (h0 : 0 ≤ hi) (h1 : hi ≤ c) :
  Val P w0 n ρ A ⟨d, .slice t x none (some y) none, T, pos, af, g⟩ (.slice base hi.toNat c) := fun w hw => by
 simp [execOp, hx, hhi, Instr.sliceAt, run_underlying ht, Instr.slice, Instr.sliceBounds, Instr.sliceBound, asIntOf, h0, h1, run_sizeOf_of hs]
 cases base <;> simp [Addr.add]
theorem vslLH {z : Operand} {k k' : IntKind} {lo hi : Int} (ht : P.underlying t = some (.slice e)) (hs : sizeT P e sz = true) (hx : ev n ρ x = .slice base l c) (hlo : ev n ρ y = .int k lo) (hhi : ev n ρ z = .int k' hi) (h0 : 0 ≤ lo) (h1 : lo ≤ hi) (h2 : hi ≤ c) :
  Val P w0 n ρ A ⟨d, .slice t x (some y) (some z) none, T, pos, af, g⟩ (.slice (slB base lo.toNat c sz) (hi.toNat - lo.toNat) (c - lo.toNat)) := fun w hw => by
 have h3 : 0 ≤ hi := by omega
 have h4 : lo ≤ (hi.toNat : Int) := by omega
 have h5 : ¬ max hi 0 < lo := by omega
 simp [h5, execOp, hx, hlo, hhi, Instr.sliceAt, run_underlying ht, Instr.slice, Instr.sliceBounds, Instr.sliceBound, asIntOf, h0, h2, h3, h4, run_sizeOf_of hs, slB]
theorem RdC.slice (h : RdC w0 A base vs) (lo m s k : Nat) (hm : m = lo → k = 0) : RdC w0 A (slB base lo m s) ((vs.drop (lo * s)).take k) := by
 unfold slB
 split
 ·rename_i hml; rw [hm hml]; simpa using RdC.nil
 ·exact (h.drop _).take _
end
section
variable {P : Program} {w0 : World} {n : Nat} {ops : Array Oper} {Q : Exit → Act → World → Prop} {ρ : Env} {A R : List HProp} {rest : List Oper} {d : Nat} {T : TypeId} {pos : String} {af : Array Edge}
variable {x y : Operand} {t e : TypeId} {b off : Nat} {vs : List Value}
theorem WL.step {o : Oper} (hg : o.guard = none) (h : ∀ w, Own w0 A w → ∃ v w' A' ρ', (execOp (ev n ρ) o).run P w = .ok v w' ∧ (match v with | .value u => (act n ρ).put o.dst u = act n ρ' | .skip => (act n ρ).put o.dst undef = act n ρ' | _ => False) ∧ Own w0 A' w' ∧ WL P w0 n ops Q rest ρ' A') :
  WL P w0 n ops Q (o :: rest) ρ A := by
 refine ⟨fun w hw => ?_⟩
 refine wpList_plain hg fun K hK => ?_
 obtain ⟨v, w', A', ρ', hr, hput, hO, hW⟩ := h w hw
 unfold Oper.wp
 rw [eval_act, hr]
 cases v with
 | value u => simp only [Oper.upon_value]; rw [show (act n ρ).put o.dst u = act n ρ' from hput]; exact hK _ _ (hW.run w' hO)
 | skip => simp only [Oper.upon_skip]; rw [show (act n ρ).put o.dst undef = act n ρ' from hput]; exact hK _ _ (hW.run w' hO)
 | _ => exact hput.elim
theorem st {v : Value} (ht : plainT P t = true) (hs : sizeT P t 1 = true) (hx : ev n ρ x = .pointer (some ⟨b, off, none⟩)) (hv : ev n ρ y = v) (h1 : v.oneCell' = true) (ho : Nat.blt off vs.length = true)
  (h : WL P w0 n ops Q rest ρ (cel b (vs.set off v) e :: R)) : WL P w0 n ops Q (⟨none, .store t x y, T, pos, af, none⟩ :: rest) ρ (cel b vs e :: R) :=
 WL.step rfl fun w hw => by
  obtain ⟨fz, hf, hO⟩ := hw.cel
  have hh := hO.heap.1
  have ho' : off < vs.length := by simpa [Nat.blt_eq] using ho
  refine ⟨.skip, w.setCell ⟨b, off, none⟩ v, _, _, ?_, rfl, Own.intro_cel (by simpa using hf) (hO.turned (setCell_turned hh v)), h⟩
  have hc : v.cells.size = 1 := by cases v <;> first | rfl | cases h1
  have hl : v.cells.toList = [v] := by cases v <;> first | rfl | cases h1
  simp [execOp, hx, hv, Instr.storeAt, Instr.sureAddr, storeVar, run_sizeOf_of hs, hc, hl, storeCells, Addr.add, run_store_cel hh hf ho' h1]
theorem sta {cs : List Value} {k : Nat} (hs : sizeT P t k = true) (hx : ev n ρ x = .pointer (some ⟨b, off, none⟩)) (hv : ev n ρ y = .agg cs.toArray) (h1 : cs.all (·.oneCell') = true) (hk : Nat.beq cs.length k = true) (ho : off + cs.length ≤ vs.length)
  (h : WL P w0 n ops Q rest ρ (cel b (splice vs off cs) e :: R)) : WL P w0 n ops Q (⟨none, .store t x y, T, pos, af, none⟩ :: rest) ρ (cel b vs e :: R) :=
 WL.step rfl fun w hw => by
  obtain ⟨fz, hf, hO⟩ := hw.cel
  obtain ⟨w', hr, ht⟩ := run_storeCells_cel (P := P) cs 0 vs w hO.heap.1 hf (by simpa using ho) (fun v hv => by simpa using (List.all_eq_true.1 h1) v hv)
  have hk' := Nat.eq_of_beq_eq_true hk
  refine ⟨.skip, w', _, _, ?_, rfl, Own.intro_cel (fz := fz) (by rw [splice_length ho]; exact hf) (hO.turned (by simpa using ht)), h⟩
  simp [execOp, hx, hv, Instr.storeAt, Instr.sureAddr, storeVar, run_sizeOf_of hs, Value.cells, hk', hr]
theorem bx {v : Value} (hx : ev n ρ x = v) (h : ∀ b, WL P w0 n ops Q rest (set ρ d (.pointer (some ⟨b, 0, none⟩))) (cel b v.cells.toList t :: A)) : WL P w0 n ops Q (⟨some d, .box t x, T, pos, af, none⟩ :: rest) ρ A :=
 WL.step rfl fun w hw => ⟨.value (.pointer (some ⟨w.heap.size, 0, none⟩)), w.alloc (.cells v.cells t), _, _, by
  simp [execOp, hx, Instr.box, newVar, newRow], put_act .., Own.intro_cel (fz := (0, 0)) (NF.zero _) (by simpa using hw.alloc _), h _⟩
theorem al {z : Value} {i : TypeInfo} (hi : P.info? t = some i) (hz : i.zero = some z) (h : ∀ b, WL P w0 n ops Q rest (set ρ d (.pointer (some ⟨b, 0, none⟩))) (cel b z.cells.toList t :: A)) : WL P w0 n ops Q (⟨some d, .alloc t, T, pos, af, none⟩ :: rest) ρ A :=
 WL.step rfl fun w hw => ⟨.value (.pointer (some ⟨w.heap.size, 0, none⟩)), w.alloc (.cells z.cells t), _, _, by
  simp [execOp, Instr.alloc, newVar, newRow, zeroValue, typeInfo, hi, hz], put_act .., Own.intro_cel (fz := (0, 0)) (NF.zero _) (by simpa using hw.alloc _), h _⟩
end
section
variable {P : Program} {w0 : World} {n : Nat} {ops : Array Oper} {Q : Exit → Act → World → Prop} {ρ : Env} {A : List HProp} {rest : List Oper} {d : Option Tmp} {T : TypeId} {pos : String} {af : Array Edge}
theorem evs_toArray (n : Nat) (ρ : Env) (l : List Operand) : l.toArray.map (ev n ρ) = (evs n ρ l).toArray := by
 have : ∀ l : List Operand, evs n ρ l = l.map (ev n ρ) := fun l => by induction l with
  | nil => rfl
  | cons x l ih => simp [evs, ih]
 simp [this]
theorem run_call {f : FuncId} {aops : List Operand} {args : List Value} {tys : Array TypeId} {g : Option (Nat × Bool)} (hc : callT P f = true) (ha : evs n ρ aops = args) (w : World) :
  (execOp (ev n ρ) ⟨d, .call ⟨.value (.func f), aops.toArray, tys⟩, T, pos, af, g⟩).run P w = .ok (.enter f args.toArray) w := by
 simp only [execOp, resolve, evs_toArray, ha, ev, Deferred.ofValue, Sem.run_bind, Sem.run_pure, Result.andThen_ok, invoke]
 rw [show (#[] ++ args.toArray ++ #[] : Array Value) = args.toArray by simp, run_callFunc_of hc]
theorem run_callv {f : FuncId} {x : Operand} {aops : List Operand} {args cap : List Value} {tys : Array TypeId} {g : Option (Nat × Bool)} (hc : callT P f = true) (hx : ev n ρ x = .func (.func f) #[] cap.toArray) (ha : evs n ρ aops = args) (w : World) :
  (execOp (ev n ρ) ⟨d, .call ⟨.value x, aops.toArray, tys⟩, T, pos, af, g⟩).run P w = .ok (.enter f (args ++ cap).toArray) w := by
 simp only [execOp, resolve, evs_toArray, ha, hx, Deferred.ofValue, Sem.run_bind, Sem.run_pure, Result.andThen_ok, invoke]
 rw [show (#[] ++ args.toArray ++ cap.toArray : Array Value) = (args ++ cap).toArray by simp, run_callFunc_of hc]
variable {ι : Type} {pr : ι → Prop} {val : ι → Value} {post : ι → List HProp}
theorem cl {k : Nat} {f : FuncId} {aops : List Operand} {args : List Value} {tys : Array TypeId} (hs : Fun P w0 f args A (Ret w0 pr val post)) (hc : callT P f = true) (ha : evs n ρ aops = args)
  (h : ∀ i, pr i → WL P w0 n ops Q rest (set ρ k (val i)) (post i)) : WL P w0 n ops Q (⟨some k, .call ⟨.value (.func f), aops.toArray, tys⟩, T, pos, af, none⟩ :: rest) ρ A := by
 refine ⟨fun w hw => ?_⟩
 refine wpList_plain rfl fun K hK => ?_
 unfold Oper.wp
 rw [eval_act, run_call hc ha, Oper.upon_enter]
 refine (hs.run w hw).mono ?_
 rintro e w' ⟨i, hi, rfl, hO⟩
 simp only [put_act]
 exact hK _ _ ((h i hi).run w' hO)
theorem clv {k : Nat} {f : FuncId} {x : Operand} {aops : List Operand} {args cap : List Value} {tys : Array TypeId} (hs : Fun P w0 f (args ++ cap) A (Ret w0 pr val post)) (hc : callT P f = true) (hx : ev n ρ x = .func (.func f) #[] cap.toArray) (ha : evs n ρ aops = args)
  (h : ∀ i, pr i → WL P w0 n ops Q rest (set ρ k (val i)) (post i)) : WL P w0 n ops Q (⟨some k, .call ⟨.value x, aops.toArray, tys⟩, T, pos, af, none⟩ :: rest) ρ A := by
 refine ⟨fun w hw => ?_⟩
 refine wpList_plain rfl fun K hK => ?_
 unfold Oper.wp
 rw [eval_act, run_callv hc hx ha, Oper.upon_enter]
 refine (hs.run w hw).mono ?_
 rintro e w' ⟨i, hi, rfl, hO⟩
 simp only [put_act]
 exact hK _ _ ((h i hi).run w' hO)
abbrev Quiet (P : Program) (w0 : World) (f : FuncId) (args : List Value) (A : List HProp) (v : Value) : Prop := Fun P w0 f args A (fun e w => e = .returned v ∧ Own w0 A w)
theorem Fun.quiet {f : FuncId} {args : List Value} {v : Value} (h : Fun P w0 f args A (Ru w0 v A)) : Quiet P w0 f args A v :=
 h.mono fun e w ⟨_, _, he, hO⟩ => ⟨he, hO⟩
theorem qcl {k : Nat} {f : FuncId} {aops : List Operand} {args : List Value} {tys : Array TypeId} {v : Value} (hs : Quiet P w0 f args A v) (hc : callT P f = true) (ha : evs n ρ aops = args)
  (h : WQ P w0 n ops Q rest (set ρ k v) A) : WQ P w0 n ops Q (⟨some k, .call ⟨.value (.func f), aops.toArray, tys⟩, T, pos, af, none⟩ :: rest) ρ A := by
 refine ⟨?_⟩
 refine wpQuiet_step fun K hK => ?_
 simp only [Region.wanted, if_true]
 refine ⟨v, fun w hw => ?_, by rw [put_act]; exact hK _ h.run⟩
 unfold Oper.quietAt
 rw [eval_act, run_call hc ha]
 exact ⟨rfl, hs.run w hw⟩
theorem qclg {k g : Nat} {b : Bool} {f : FuncId} {aops : List Operand} {args : List Value} {tys : Array TypeId} {v : Value} (hg : yieldN n ρ ops g = some b) (hs : Quiet P w0 f args A v) (hc : callT P f = true) (ha : evs n ρ aops = args)
  (h : WQ P w0 n ops Q rest (set ρ k v) A) : WQ P w0 n ops Q (⟨some k, .call ⟨.value (.func f), aops.toArray, tys⟩, T, pos, af, some (g, b)⟩ :: rest) ρ A := by
 refine ⟨?_⟩
 refine wpQuiet_step fun K hK => ?_
 simp only [Region.wanted, act, yielded_arr, hg, beq_self_eq_true, if_true]
 refine ⟨v, fun w hw => ?_, by rw [← act, put_act]; exact hK _ h.run⟩
 unfold Oper.quietAt
 rw [← act, eval_act, run_call hc ha]
 exact ⟨rfl, hs.run w hw⟩
end
end Go.Sl
end
section
set_option linter.unusedVariables false
namespace Go.Sl
section
variable {P : Program} {w0 : World} {n : Nat} {ops : Array Oper} {Q : Exit → Act → World → Prop} {ρ : Env} {A : List HProp} {rest : List Oper} {d : Nat} {T : TypeId} {pos : String} {af : Array Edge} {x y c : Operand}
theorem zI {k : IntKind} {a : Int} (hx : ev n ρ x = .int k a) (h : WL P w0 n ops Q rest (set ρ d (.int k a)) A) : WL P w0 n ops Q (⟨some d, .move x, T, pos, af, none⟩ :: rest) ρ A := sv (vmI hx) h
theorem zS {a : Option Addr} {l c : Nat} (hx : ev n ρ x = .slice a l c) (h : WL P w0 n ops Q rest (set ρ d (.slice a l c)) A) : WL P w0 n ops Q (⟨some d, .move x, T, pos, af, none⟩ :: rest) ρ A := sv (vmS hx) h
theorem zP {a : Option Addr} (hx : ev n ρ x = .pointer a) (h : WL P w0 n ops Q rest (set ρ d (.pointer a)) A) : WL P w0 n ops Q (⟨some d, .move x, T, pos, af, none⟩ :: rest) ρ A := sv (vmP hx) h
theorem zB {b : Bool} (hx : ev n ρ x = .bool b) (h : WL P w0 n ops Q rest (set ρ d (.bool b)) A) : WL P w0 n ops Q (⟨some d, .move x, T, pos, af, none⟩ :: rest) ρ A := sv (vmB hx) h
theorem yI {k : IntKind} {a : Int} (hx : ev n ρ x = .int k a) (h : WL P w0 n ops Q rest (set ρ d (.int k a)) A) : WL P w0 n ops Q (⟨some d, .assign x, T, pos, af, none⟩ :: rest) ρ A := sv (vaI hx) h
theorem yS {a : Option Addr} {l c : Nat} (hx : ev n ρ x = .slice a l c) (h : WL P w0 n ops Q rest (set ρ d (.slice a l c)) A) : WL P w0 n ops Q (⟨some d, .assign x, T, pos, af, none⟩ :: rest) ρ A := sv (vaS hx) h
theorem yB {b : Bool} (hx : ev n ρ x = .bool b) (h : WL P w0 n ops Q rest (set ρ d (.bool b)) A) : WL P w0 n ops Q (⟨some d, .assign x, T, pos, af, none⟩ :: rest) ρ A := sv (vaB hx) h
theorem uT (hc : ev n ρ c = .bool true) (h : WL P w0 n ops Q rest (set ρ d (ev n ρ x)) A) : WL P w0 n ops Q (⟨some d, .pick c x y, T, pos, af, none⟩ :: rest) ρ A := sv (vpkt hc) h
theorem uF (hc : ev n ρ c = .bool false) (h : WL P w0 n ops Q rest (set ρ d (ev n ρ y)) A) : WL P w0 n ops Q (⟨some d, .pick c x y, T, pos, af, none⟩ :: rest) ρ A := sv (vpkf hc) h
theorem uN {ad : Addr} (hx : ev n ρ x = .pointer (some ad)) (h : WL P w0 n ops Q rest (set ρ d (.pointer (some ad))) A) : WL P w0 n ops Q (⟨some d, .nilCheck x, T, pos, af, none⟩ :: rest) ρ A := sv (vnil hx) h
end
end Go.Sl
end
section
set_option linter.unusedVariables false
set_option linter.unusedSimpArgs false
namespace Go.Sl
open Go.RowKit
def u8v (c : UInt8) : Value := .int .u8 (c.toNat : Int)
def u8s (bs : List UInt8) : List Value := bs.map u8v
@[simp] theorem u8s_length (bs : List UInt8) : (u8s bs).length = bs.length := by simp [u8s]
theorem u8s_append (a b : List UInt8) : u8s (a ++ b) = u8s a ++ u8s b := by simp [u8s]
theorem u8s_take (a : List UInt8) (k : Nat) : (u8s a).take k = u8s (a.take k) := by simp [u8s]
theorem u8s_drop (a : List UInt8) (k : Nat) : (u8s a).drop k = u8s (a.drop k) := by simp [u8s]
theorem u8s_at {bs : List UInt8} {i : Nat} (h : i < bs.length) : (u8s bs)[i]? = some (u8v bs[i]) := by simp [u8s, h]
theorem u8s_one (bs : List UInt8) : ∀ v ∈ u8s bs, v.oneCell' = true := by
 intro v hv
 obtain ⟨c, _, rfl⟩ := List.mem_map.1 hv
 rfl
def row (base : Option Addr) (c s : Nat) (e : TypeId) (vs : List Value) : HProp := fun h =>
 (base = none ∧ vs = [] ∧ c = 0 ∧ emp h) ∨ ∃ g o cur, base = some ⟨g, o, none⟩ ∧ vs <+: cur.drop o ∧ (vs.length ≤ c * s ∧ o + c * s ≤ cur.length) ∧ c ≤ maxLen ∧ cel g cur e h
section
variable {w0 w : World} {A R : List HProp} {base : Option Addr} {c s : Nat} {e : TypeId} {vs : List Value}
theorem Own.row (H : Own w0 (row base c s e vs :: R) w) : (base = none ∧ vs = [] ∧ c = 0 ∧ Own w0 R w) ∨ ∃ g o cur, base = some ⟨g, o, none⟩ ∧ vs <+: cur.drop o ∧ (vs.length ≤ c * s ∧ o + c * s ≤ cur.length) ∧ c ≤ maxLen ∧ Own w0 (Sl.cel g cur e :: R) w := by
 obtain ⟨hb, h, ⟨h1, h2, a, a2, d, x⟩, hw⟩ := H
 rcases a with ⟨r1, r2, r3, _⟩ | ⟨g, o, cur, r1, r2, r3, r4, r5⟩
 ·exact .inl ⟨r1, r2, r3, Own.tail (A := fun _ => True) ⟨hb, h, ⟨h1, h2, trivial, a2, d, x⟩, hw⟩⟩
 ·exact .inr ⟨g, o, cur, r1, r2, r3, r4, hb, h, ⟨h1, h2, r5, a2, d, x⟩, hw⟩
theorem Own.intro_rowo {g o : Nat} {cur : List Value} (hp : vs <+: cur.drop o) (hl : vs.length ≤ c * s ∧ o + c * s ≤ cur.length) (hc : c ≤ maxLen) (H : Own w0 (Sl.cel g cur e :: R) w) : Own w0 (Sl.row (some ⟨g, o, none⟩) c s e vs :: R) w :=
 H.head fun _ h => .inr ⟨g, o, cur, rfl, hp, hl, hc, h⟩
theorem Own.intro_rowc {g : Nat} {cur : List Value} (hp : vs <+: cur) (hl : vs.length ≤ c * s ∧ c * s ≤ cur.length) (hc : c ≤ maxLen) (H : Own w0 (Sl.cel g cur e :: R) w) : Own w0 (Sl.row (some ⟨g, 0, none⟩) c s e vs :: R) w :=
 H.intro_rowo (by simpa using hp) (by simpa using hl) hc
theorem Own.intro_row {g : Nat} {cur : List Value} (hp : vs <+: cur) (hl : cur.length = c * s) (hc : c ≤ maxLen) (H : Own w0 (Sl.cel g cur e :: R) w) : Own w0 (Sl.row (some ⟨g, 0, none⟩) c s e vs :: R) w :=
 H.intro_rowc hp ⟨hl ▸ hp.length_le, Nat.le_of_eq hl.symm⟩ hc
theorem Own.intro_row_nil (H : Own w0 R w) : Own w0 (Sl.row none 0 s e [] :: R) w := H.intro_emp.head fun _ h => .inl ⟨rfl, rfl, rfl, h⟩
theorem RdC.of_row (hm : row base c s e vs ∈ A) : RdC w0 A base vs := fun w hw j v hv => by
 obtain ⟨R, h⟩ := hw.mem hm
 rcases h.row with ⟨_, rfl, _⟩ | ⟨g, o, cur, rfl, hp, _, _, h⟩
 ·simp at hv
 ·exact RdC.of_cel (w0 := w0) (A := Sl.cel g cur e :: R) o (List.Mem.head _) hp w h j v hv
theorem row_le (H : Own w0 (row base c s e vs :: R) w) : vs.length ≤ c * s ∧ c ≤ maxLen := by
 rcases H.row with ⟨_, rfl, rfl, _⟩ | ⟨g, o, cur, _, hp, hl, hc, _⟩
 ·simp [maxLen]
 ·exact ⟨hl.1, hc⟩
theorem Own.row_prefix {ws : List Value} (hp : ws <+: vs) (H : Own w0 (Sl.row base c s e vs :: R) w) : Own w0 (Sl.row base c s e ws :: R) w := H.head fun h a => by
 rcases a with ⟨r1, r2, r3, r4⟩ | ⟨g, o, cur, r1, r2, r3⟩
 ·subst r2; exact .inl ⟨r1, List.prefix_nil.1 hp, r3, r4⟩
 ·exact .inr ⟨g, o, cur, r1, hp.trans r2, ⟨Nat.le_trans hp.length_le r3.1.1, r3.1.2⟩, r3.2⟩
theorem Own.row_cut {k : Nat} (hk : k ≤ c) (hs : k * s ≤ vs.length) (H : Own w0 (Sl.row base c s e vs :: R) w) : Own w0 (Sl.row base k s e (vs.take (k * s)) :: R) w := H.head fun h a => by
 rcases a with ⟨r1, r2, r3, r4⟩ | ⟨g, o, cur, r1, r2, r3, r5, r6⟩
 ·subst r2; subst r3; exact .inl ⟨r1, by simp, by omega, r4⟩
 ·exact .inr ⟨g, o, cur, r1, (List.take_prefix _ _).trans r2, ⟨by rw [List.length_take]; exact Nat.min_le_left _ _, Nat.le_trans (Nat.add_le_add_left (Nat.mul_le_mul_right s hk) o) r3.2⟩, Nat.le_trans hk r5, r6⟩
theorem Own.cel_row {g : Nat} (hl : vs.length = c * s) (hc : c ≤ maxLen) (H : Own w0 (Sl.cel g vs e :: R) w) : Own w0 (Sl.row (some ⟨g, 0, none⟩) c s e vs :: R) w := H.intro_row (List.prefix_refl _) hl hc
end
theorem row_cap {w0 w : World} {R : List HProp} {base : Option Addr} {c s l m : Nat} {e : TypeId} {vs news : List Value} (hs : 0 < s) (hl : vs.length = l * s) (hm : news.length = m * s) (H : Own w0 (row base c s e (vs ++ news) :: R) w) : l + m ≤ c := by
 have := (row_le H).1
 rw [List.length_append, hl, hm, ← Nat.add_mul] at this
 exact Nat.le_of_mul_le_mul_right this hs
def zeroT (P : Program) (e : TypeId) (z : Value) (s by_ : Nat) : Prop := ∃ i, P.info? e = some i ∧ i.zero = some z ∧ i.size = s ∧ i.bytes = by_
theorem zeroT_of {P : Program} {e : TypeId} {z : Value} {s b : Nat} (h : (P.info? e).map (fun i => (i.zero, i.size, i.bytes)) = some (some z, s, b)) : zeroT P e z s b := by
 cases hi : P.info? e with
 | none => simp [hi] at h
 | some i => simp [hi] at h; exact ⟨i, hi, h.1, h.2.1, h.2.2⟩
def srcT (P : Program) (t : TypeId) : Prop := P.underlying t = some .string ∨ ∃ e, P.underlying t = some (.slice e)
section
variable {P : Program} {w0 : World} {R : List HProp}
theorem zeroCells_length (z : Array Value) (n : Nat) : (Builtin.zeroCells z n).toList.length = n * z.size := by simp [Builtin.zeroCells]
theorem run_append_row {t t2 ty e : TypeId} {z : Value} {s by_ : Nat} (ht : P.underlying t = some (.slice e)) (h2 : srcT P t2) (hz : zeroT P e z s by_) (hzs : z.cells.size = s)
  {base : Option Addr} {l c m : Nat} {vs news : List Value} {y : Value} (hl : vs.length = l * s) (hm : news.length = m * s) (h1 : ∀ v ∈ news, v.oneCell' = true)
  (hlen : ∀ w, (Builtin.lenOf y).run P w = .ok m w) (hsrc : ∀ w, Own w0 (row base c s e vs :: R) w → (Builtin.firstCells s m y).run P w = .ok news.toArray w)
  (h63 : l + m ≤ maxLen) (hby : (l + m) * by_ ≤ 140737488355328) {w : World} (hw : Own w0 (row base c s e vs :: R) w) :
  ∃ base' c' w', (Builtin.append_ #[t, t2] ty #[.slice base l c, y]).run P w = .ok (.slice base' (l + m) c') w' ∧ Own w0 (row base' c' s e (vs ++ news) :: R) w' := by
 obtain ⟨i, hi, hz, rfl, rfl⟩ := hz
 have hfc := hsrc w hw
 by_cases hroom : l + m ≤ c
 ·rcases hw.row with ⟨rfl, rfl, rfl, hO⟩ | ⟨g, o, cur, rfl, hp, hcl, hc, hO⟩
  ·have hl0 : l = 0 := by omega
   have hm0 : m = 0 := by omega
   subst hl0; subst hm0
   have hn : news = [] := List.eq_nil_of_length_eq_zero (by simpa using hm)
   subst hn
   refine ⟨none, 0, w, ?_, by simpa using hw⟩
   rcases h2 with h2 | ⟨e2, h2⟩ <;> simp [Builtin.append_, run_underlying ht, run_underlying h2, sizeOf, typeInfo, hi, hlen, hfc]
  ·obtain ⟨fz, hf, hO1⟩ := hO.cel
   have hfit0 : l * i.size + news.length ≤ c * i.size := by rw [hm, ← Nat.add_mul]; exact Nat.mul_le_mul_right _ hroom
   have hfit : o + l * i.size + news.length ≤ cur.length := by have := hcl.2; omega
   obtain ⟨w', hr, hT⟩ := run_storeCells_cel (P := P) (o := o + l * i.size) news 0 cur w hO1.heap.1 hf (by simpa using hfit) h1
   refine ⟨_, c, w', ?_, Own.intro_rowo (cur := splice cur (o + l * i.size) news) ?_ ⟨by rw [List.length_append, hl]; exact hfit0, by rw [splice_length hfit]; exact hcl.2⟩ hc (Own.intro_cel (fz := fz) (by rw [splice_length hfit]; exact hf) (hO1.turned (by simpa using hT)))⟩
   ·rcases h2 with h2 | ⟨e2, h2⟩ <;> simp [Builtin.append_, run_underlying ht, run_underlying h2, sizeOf, typeInfo, hi, hlen, hfc, hroom, add_at, hr]
   ·have h3 : (cur.drop o).take (l * i.size) = vs := by rw [← hl]; exact (List.prefix_iff_eq_take.1 hp).symm
    have h4 : (cur.take (o + l * i.size)).length = o + l * i.size := by rw [List.length_take]; omega
    unfold splice
    rw [List.append_assoc, List.drop_append_of_le_length (by rw [h4]; omega), List.drop_take, Nat.add_sub_cancel_left, h3, ← List.append_assoc]
    exact List.prefix_append _ _
 ·have h63' : ¬ ((9223372036854775807 : Int) < (l : Int) + (m : Int)) := by simp only [maxLen] at h63; omega
  have hfit := growslice_fits (need := l + m) (old := c) (bytes := i.bytes) (by omega) hby
  have h48' : ¬ (281474976710656 < Builtin.nextslicecap (l + m) c * i.bytes) := by omega
  have hold : (Builtin.firstCells i.size l (.slice base l c)).run P w.drew = .ok vs.toArray w.drew := by
   have hR := RdC.of_row (w0 := w0) (A := row base c i.size e vs :: R) (List.Mem.head _) w hw
   cases base with
   | none =>
    have : vs = [] := by
     cases vs with
     | nil => rfl
     | cons v vs => obtain ⟨a, ha, _⟩ := hR 0 v rfl; cases ha
    subst this
    exact run_firstCells_none _ _ _ _ _
   | some a => exact run_firstCells_some _ i.size l a l c vs hl (fun j v hv => by obtain ⟨a', ha, hc'⟩ := hR j v hv; cases ha; simpa using hc')
  have hnew := hsrc w.drew hw.drew
  have hge := grownCap_ge w (l + m) c e
  have hcm : grownCap w (l + m) c e ≤ maxLen := grownCap_le_maxLen w (l + m) c e h63
  refine ⟨some ⟨w.heap.size, 0, none⟩, grownCap w (l + m) c e, w.drew.alloc (.cells (vs ++ news ++ (Builtin.zeroCells z.cells (grownCap w (l + m) c e - (l + m))).toList).toArray e), ?_, ?_⟩
  ·rcases h2 with h2 | ⟨e2, h2⟩ <;> simp [Builtin.append_, run_underlying ht, run_underlying h2, sizeOf, typeInfo, zeroValue, hi, hz, hlen, hroom, h63', h48', Question.forced, hold, hnew, newRow, grownCap] <;> (congr 2; apply Array.ext'; simp)
  ·have hO : Own w0 R w.drew := hw.drew.tail
   have := (hO.alloc (.cells (vs ++ news ++ (Builtin.zeroCells z.cells (grownCap w (l + m) c e - (l + m))).toList).toArray e)).intro_cel (NF.zero _)
   refine Own.intro_row (List.prefix_append _ _) ?_ hcm this
   simp only [List.length_append, zeroCells_length, hl, hm, hzs, ← Nat.add_mul]
   congr 1
   omega
theorem run_append_new {t t2 ty e : TypeId} {z : Value} {s by_ : Nat} (ht : P.underlying t = some (.slice e)) (h2 : srcT P t2) (hz : zeroT P e z s by_) (hzs : z.cells.size = s)
  {base : Option Addr} {l c m : Nat} {vs news : List Value} {y : Value} (hl : vs.length = l * s) (hm : news.length = m * s)
  (hlen : ∀ w, (Builtin.lenOf y).run P w = .ok m w) (hsrc : ∀ w, Own w0 R w → (Builtin.firstCells s m y).run P w = .ok news.toArray w) (hR : RdC w0 R base vs) (hroom : c < l + m)
  (h63 : l + m ≤ maxLen) (hby : (l + m) * by_ ≤ 140737488355328) {w : World} (hw : Own w0 R w) :
  ∃ base' c' w', (Builtin.append_ #[t, t2] ty #[.slice base l c, y]).run P w = .ok (.slice base' (l + m) c') w' ∧ Own w0 (row base' c' s e (vs ++ news) :: R) w' := by
 obtain ⟨i, hi, hz, rfl, rfl⟩ := hz
 have hroom' : ¬ l + m ≤ c := by omega
 have h63' : ¬ ((9223372036854775807 : Int) < (l : Int) + (m : Int)) := by simp only [maxLen] at h63; omega
 have hfit := growslice_fits (need := l + m) (old := c) (bytes := i.bytes) (by omega) hby
 have h48' : ¬ (281474976710656 < Builtin.nextslicecap (l + m) c * i.bytes) := by omega
 have hold : (Builtin.firstCells i.size l (.slice base l c)).run P w.drew = .ok vs.toArray w.drew := by
  have hR := hR w hw
  cases base with
  | none =>
   have : vs = [] := by
    cases vs with
    | nil => rfl
    | cons v vs => obtain ⟨a, ha, _⟩ := hR 0 v rfl; cases ha
   subst this
   exact run_firstCells_none _ _ _ _ _
  | some a => exact run_firstCells_some _ i.size l a l c vs hl (fun j v hv => by obtain ⟨a', ha, hc'⟩ := hR j v hv; cases ha; simpa using hc')
 have hnew := hsrc w.drew hw.drew
 have hge := grownCap_ge w (l + m) c e
 have hcm : grownCap w (l + m) c e ≤ maxLen := grownCap_le_maxLen w (l + m) c e h63
 refine ⟨some ⟨w.heap.size, 0, none⟩, grownCap w (l + m) c e, w.drew.alloc (.cells (vs ++ news ++ (Builtin.zeroCells z.cells (grownCap w (l + m) c e - (l + m))).toList).toArray e), ?_, ?_⟩
 ·rcases h2 with h2 | ⟨e2, h2⟩ <;> simp [Builtin.append_, run_underlying ht, run_underlying h2, sizeOf, typeInfo, zeroValue, hi, hz, hlen, hroom', h63', h48', Question.forced, hold, hnew, newRow, grownCap] <;> (congr 2; apply Array.ext'; simp)
 ·have hO : Own w0 R w.drew := hw.drew
  have := (hO.alloc (.cells (vs ++ news ++ (Builtin.zeroCells z.cells (grownCap w (l + m) c e - (l + m))).toList).toArray e)).intro_cel (NF.zero _)
  refine Own.intro_row (List.prefix_append _ _) ?_ hcm this
  simp only [List.length_append, zeroCells_length, hl, hm, hzs, ← Nat.add_mul]
  congr 1
  omega
theorem run_firstCells_rd {A : List HProp} {base : Option Addr} {m c s : Nat} {news : List Value} (hR : RdC w0 A base news) (hm : news.length = m * s) {w : World} (hw : Own w0 A w) {l : Nat} :
  (Builtin.firstCells s m (.slice base l c)).run P w = .ok news.toArray w := by
 have hR := hR w hw
 cases base with
 | none =>
  have : news = [] := by
   cases news with
   | nil => rfl
   | cons v vs => obtain ⟨a, ha, _⟩ := hR 0 v rfl; cases ha
  subst this
  exact run_firstCells_none _ _ _ _ _
 | some a => exact run_firstCells_some _ s m a l c news hm (fun j v hv => by obtain ⟨a', ha, hc'⟩ := hR j v hv; cases ha; simpa using hc')
theorem run_firstCells_str {s : ByteArray} (w : World) : (Builtin.firstCells 1 s.size (.string s)).run P w = .ok (u8s s.data.toList).toArray w := by
 have : s.extract 0 s.size = s := by simp
 simp only [Builtin.firstCells, this]
 have e : (u8s s.data.toList).toArray = s.data.map (fun b => Value.int .u8 b.toNat) := by
  apply Array.ext'
  simp [u8s, u8v]
 rw [e]; rfl
end
section
variable {P : Program} {w0 : World} {n : Nat} {ops : Array Oper} {Q : Exit → Act → World → Prop} {ρ : Env} {A R : List HProp} {rest : List Oper} {d d2 : Nat} {T T2 : TypeId} {pos pos2 : String} {af af2 : Array Edge}
variable {x y : Operand} {t t2 e : TypeId} {z : Value} {s by_ : Nat} {base : Option Addr} {l c m : Nat} {vs news : List Value}
theorem ap {b2 : Option Addr} {c2 : Nat} (hs0 : Nat.blt 0 s = true) (ht : P.underlying t = some (.slice e)) (hz : zeroT P e z s by_) (hzs : Nat.beq z.cells.size s = true) (hx : ev n ρ x = .slice base l c) (hy : ev n ρ y = .slice b2 m c2)
  (hl : vs.length = l * s) (hm : news.length = m * s) (h1 : ∀ v ∈ news, v.oneCell' = true) (hR : RdC w0 (row base c s e vs :: R) b2 news) (h63 : l + m ≤ maxLen) (hby : (l + m) * by_ ≤ 140737488355328)
  (h : ∀ base' c', l + m ≤ c' → WL P w0 n ops Q rest (set ρ d (.slice base' (l + m) c')) (row base' c' s e (vs ++ news) :: R)) :
  WL P w0 n ops Q (⟨some d, .call ⟨.builtin .append, #[x, y], #[t, t]⟩, T, pos, af, none⟩ :: rest) ρ (row base c s e vs :: R) :=
 WL.step rfl fun w hw => by
  obtain ⟨base', c', w', hr, hO⟩ := run_append_row (P := P) (ty := T) (y := .slice b2 m c2) ht (.inr ⟨_, ht⟩) hz (Nat.eq_of_beq_eq_true hzs) hl hm h1 (fun w => by simp [Builtin.lenOf]) (fun w hw => run_firstCells_rd hR hm hw) h63 hby hw
  exact ⟨.value (.slice base' (l + m) c'), w', _, _, by simp [execOp, resolve, invoke, builtin, hx, hy, hr], put_act .., hO, h _ _ (row_cap (by simpa using hs0) hl hm hO)⟩
theorem aps {str : ByteArray} (ht : P.underlying t = some (.slice e)) (h2 : srcT P t2) (hz : zeroT P e z 1 by_) (hzs : Nat.beq z.cells.size 1 = true) (hx : ev n ρ x = .slice base l c) (hy : ev n ρ y = .string str)
  (hl : vs.length = l) (h63 : l + str.size ≤ maxLen) (hby : (l + str.size) * by_ ≤ 140737488355328)
  (h : ∀ base' c', l + str.size ≤ c' → WL P w0 n ops Q rest (set ρ d (.slice base' (l + str.size) c')) (row base' c' 1 e (vs ++ u8s str.data.toList) :: R)) :
  WL P w0 n ops Q (⟨some d, .call ⟨.builtin .append, #[x, y], #[t, t2]⟩, T, pos, af, none⟩ :: rest) ρ (row base c 1 e vs :: R) :=
 WL.step rfl fun w hw => by
  obtain ⟨base', c', w', hr, hO⟩ := run_append_row (P := P) (ty := T) (y := .string str) ht h2 hz (Nat.eq_of_beq_eq_true hzs) (by omega) (by simp) (u8s_one str.data.toList) (fun w => by simp [Builtin.lenOf]) (fun w hw => run_firstCells_str w) h63 hby hw
  exact ⟨.value (.slice base' (l + str.size) c'), w', _, _, by simp [execOp, resolve, invoke, builtin, hx, hy, hr], put_act .., hO, h _ _ (row_cap (s := 1) (by omega) (by omega) (by simp) hO)⟩
theorem apn {b2 : Option Addr} {c2 : Nat} (hs0 : Nat.blt 0 s = true) (ht : P.underlying t = some (.slice e)) (hz : zeroT P e z s by_) (hzs : Nat.beq z.cells.size s = true) (hx : ev n ρ x = .slice base l c) (hy : ev n ρ y = .slice b2 m c2)
  (hl : vs.length = l * s) (hm : news.length = m * s) (hRx : RdC w0 A base vs) (hR : RdC w0 A b2 news) (hroom : c < l + m) (h63 : l + m ≤ maxLen) (hby : (l + m) * by_ ≤ 140737488355328)
  (h : ∀ base' c', l + m ≤ c' → WL P w0 n ops Q rest (set ρ d (.slice base' (l + m) c')) (row base' c' s e (vs ++ news) :: A)) :
  WL P w0 n ops Q (⟨some d, .call ⟨.builtin .append, #[x, y], #[t, t]⟩, T, pos, af, none⟩ :: rest) ρ A :=
 WL.step rfl fun w hw => by
  obtain ⟨base', c', w', hr, hO⟩ := run_append_new (P := P) (ty := T) (y := .slice b2 m c2) ht (.inr ⟨_, ht⟩) hz (Nat.eq_of_beq_eq_true hzs) hl hm (fun w => by simp [Builtin.lenOf]) (fun w hw => run_firstCells_rd hR hm hw) hRx hroom h63 hby hw
  exact ⟨.value (.slice base' (l + m) c'), w', _, _, by simp [execOp, resolve, invoke, builtin, hx, hy, hr], put_act .., hO, h _ _ (row_cap (by simpa using hs0) hl hm hO)⟩
theorem mk {k k2 : IntKind} {li ci : Int} (ht : P.underlying t = some (.slice e)) (hz : zeroT P e z s by_) (hx : ev n ρ x = .int k li) (hy : ev n ρ y = .int k2 ci) (h0 : 0 ≤ li) (h1 : li ≤ ci) (hby : (by_ : Int) * ci ≤ 281474976710656) (h63 : ci ≤ 9223372036854775807)
  (h : ∀ g, WL P w0 n ops Q rest (set ρ d (.slice (some ⟨g, 0, none⟩) li.toNat ci.toNat)) (cel g (madeCells z.cells (ci.toNat * s)).toList e :: A)) :
  WL P w0 n ops Q (⟨some d, .makeSlice t x y, T, pos, af, none⟩ :: rest) ρ A :=
 WL.step rfl fun w hw => by
  obtain ⟨i, hi, hz, rfl, rfl⟩ := hz
  have hr := run_make (P := P) w t e i z ht hi hz k k2 li ci h0 h1 hby h63
  exact ⟨.value _, w.alloc (.cells (madeCells z.cells (ci.toNat * i.size)) e), _, _, by simp [execOp, hx, hy, hr]; rfl, put_act .., Own.intro_cel (fz := (0, 0)) (NF.zero _) (by simpa using hw.alloc _), h _⟩
theorem made_rep {z : Value} (h : z.cells = #[z]) (k : Nat) : (madeCells z.cells k).toList = List.replicate k z := by
 apply List.ext_getElem?
 intro j
 simp only [madeCells, h, Array.toList_map, Array.toList_range, List.getElem?_map, List.getElem?_replicate]
 by_cases hj : j < k
 ·simp [List.getElem?_range hj, hj, Nat.mod_one]
 ·simp [hj]
def enumP : Nat → List Value → List (Nat × Value)
 | _, [] => []
 | k, v :: l => (k, v) :: enumP (k + 1) l
theorem fill_enum : ∀ (xs : List Value) (k : Nat) (cur : Array Value), (∀ v ∈ xs, v.cells = #[v]) → k + xs.length = cur.size →
  Instr.fill (fun i => some (i * 1, 1)) cur (enumP k xs) = some (cur.toList.take k ++ xs).toArray := by
 intro xs
 induction xs with
 | nil =>
  intro k cur _ hk
  simp only [enumP, Instr.fill, Option.some.injEq]
  apply Array.ext'
  simp at hk ⊢
  rw [List.take_of_length_le (by simp [hk])]
 | cons v xs ih =>
  intro k cur hc hk
  have hv := hc v (by simp)
  simp only [List.length_cons] at hk
  simp only [enumP, Instr.fill, hv, List.size_toArray, List.length_cons, List.length_nil]
  have h1 : ¬ (decide (0 + 1 ≠ 1) || decide (k * 1 + (0 + 1) > cur.size)) = true := by simp; omega
  rw [if_neg h1]
  have e : (#[v] : Array Value).zipIdx.foldl (fun cs x => cs.setIfInBounds (k * 1 + x.2) x.1) cur = cur.setIfInBounds k v := by simp
  rw [e, ih (k + 1) _ (fun u hu => hc u (by simp [hu])) (by simp; omega)]
  congr 2
  have hk' : k < cur.toList.length := by simp; omega
  rw [show (cur.setIfInBounds k v).toList = cur.toList.set k v by simp]
  rw [List.take_succ_eq_append_getElem (by simpa using hk')]
  simp [List.take_set]
  rw [List.set_eq_of_length_le (by simp; omega)]
theorem run_buildSlice1 (ht : P.underlying t = some (.slice e)) (hz : zeroT P e z 1 by_) (w : World) (xs : List Value) (hx : ∀ v ∈ xs, v.cells = #[v]) (hl : xs.length ≤ 1000) :
  (Instr.buildSlice t xs.length (enumP 0 xs).toArray).run P w = .ok (.slice (some ⟨w.heap.size, 0, none⟩) xs.length xs.length) (w.alloc (.cells xs.toArray e)) := by
 obtain ⟨i, hi, hz, hs, _⟩ := hz
 have hsize : ∀ w, (sizeOf e).run P w = .ok 1 w := fun w => by simp [sizeOf, typeInfo, hi, hs]
 have hle : ¬ (xs.length * 1 > 2 ^ 24) := by
  have : (2:Nat)^24 = 16777216 := by decide
  omega
 have hz1 : ∀ w, (zeroValue e).run P w = .ok z w := fun w => by simp [zeroValue, typeInfo, hi, hz]
 have hfill : ∀ (zero : Array Value), Instr.fill (fun i => some (i * 1, 1)) ((Array.range (xs.length * 1)).map (zero[· % zero.size]!)) (enumP 0 xs) = some xs.toArray := fun zero => by
  have := fill_enum xs 0 ((Array.range (xs.length * 1)).map (zero[· % zero.size]!)) hx (by simp)
  simpa using this
 unfold Instr.buildSlice
 simp only [Sem.run_bind, run_underlying ht, Result.andThen_ok, hsize, if_neg hle]
 by_cases h0 : xs.length * 1 = 0
 ·obtain rfl : xs = [] := List.eq_nil_of_length_eq_zero (by omega)
  simp [enumP, Instr.fill, newRow, Array.range_zero']
 ·have := hfill z.cells
  simp only [if_neg h0, Sem.run_bind, Sem.run_pure, Result.andThen_ok, hz1, this]
  simp [newRow]
theorem bsl_core {len : Nat} {parts : Array (Nat × Operand)} (xs : List Value) (ht : P.underlying t = some (.slice e)) (hz : zeroT P e z 1 by_) (hlen : len = xs.length) (hp : (parts.map fun (i, x) => (i, ev n ρ x)) = (enumP 0 xs).toArray)
  (hx : ∀ v ∈ xs, v.cells = #[v]) (hl : xs.length ≤ 1000)
  (h : ∀ g, WL P w0 n ops Q rest (set ρ d (.slice (some ⟨g, 0, none⟩) xs.length xs.length)) (cel g xs e :: A)) :
  WL P w0 n ops Q (⟨some d, .buildSlice t len parts, T, pos, af, none⟩ :: rest) ρ A :=
 WL.step rfl fun w hw => by
  subst hlen
  have hr := run_buildSlice1 (P := P) ht hz w xs hx hl
  exact ⟨.value _, w.alloc (.cells xs.toArray e), _, _, by simp [execOp, hp, hr]; rfl, put_act .., Own.intro_cel (fz := (0, 0)) (NF.zero _) (by simpa using hw.alloc _), h _⟩
theorem bsl1 {v : Value} (ht : P.underlying t = some (.slice e)) (hz : zeroT P e z 1 by_) (hx : ev n ρ x = v) (h1 : v.cells = #[v])
  (h : ∀ g, WL P w0 n ops Q rest (set ρ d (.slice (some ⟨g, 0, none⟩) 1 1)) (cel g [v] e :: A)) :
  WL P w0 n ops Q (⟨some d, .buildSlice t 1 #[(0, x)], T, pos, af, none⟩ :: rest) ρ A :=
 bsl_core [v] ht hz rfl (by simp [enumP, hx]) (by simpa using h1) (by simp) h
theorem ap1 {v : Value} {d1 : Nat} (ht : P.underlying t = some (.slice e)) (hz : zeroT P e z 1 by_) (hzs : Nat.beq z.cells.size 1 = true) (hx : ∀ u, ev n (set ρ d1 u) x = .slice base l c) (hd : ∀ u, ev n (set ρ d1 u) (.tmp d1) = u) (hy : ev n ρ y = v) (h1 : v.cells = #[v]) (h1' : v.oneCell' = true)
  (hl : vs.length = l) (h63 : l + 1 ≤ maxLen) (hby : (l + 1) * by_ ≤ 140737488355328)
  (h : ∀ g base' c', l + 1 ≤ c' → WL P w0 n ops Q rest (set (set ρ d1 (.slice (some ⟨g, 0, none⟩) 1 1)) d (.slice base' (l + 1) c')) (row base' c' 1 e (vs ++ [v]) :: R)) :
  WL P w0 n ops Q (⟨some d1, .buildSlice t 1 #[(0, y)], T, pos, af, none⟩ :: ⟨some d, .call ⟨.builtin .append, #[x, .tmp d1], #[t, t]⟩, T2, pos2, af2, none⟩ :: rest) ρ (row base c 1 e vs :: R) :=
 bsl1 ht hz hy h1 fun g => by
  refine WL.perm (A' := row base c 1 e vs :: cel g [v] e :: R) ?_ (fun w hw => hw.pk1)
  refine ap rfl ht hz hzs (hx _) (hd _) (by omega) (m := 1) (news := [v]) (by simp) (by simpa using h1') (RdC.of_cel 0 (List.Mem.tail _ (List.Mem.head _)) (by simp)) h63 hby fun base' c' hc' => ?_
  exact WL.perm (h g base' c' hc') (fun w hw => hw.pk1.tail)
theorem cp {g off dl dc sl sc : Nat} {b2 : Option Addr} {cur : List Value} (hs : sizeT P e 1 = true) (ht : P.underlying t = some (.slice e)) (hx : ev n ρ x = .slice (some ⟨g, off, none⟩) dl dc) (hy : ev n ρ y = .slice b2 sl sc)
  (hR : RdC w0 (cel g cur e :: R) b2 news) (hn : news.length = min sl dl) (h1 : ∀ v ∈ news, v.oneCell' = true) (ho : off + news.length ≤ cur.length)
  (h : WL P w0 n ops Q rest (set ρ d (.int .i64 news.length)) (cel g (splice cur off news) e :: R)) :
  WL P w0 n ops Q (⟨some d, .call ⟨.builtin .copy, #[x, y], #[t, t2]⟩, T, pos, af, none⟩ :: rest) ρ (cel g cur e :: R) :=
 WL.step rfl fun w hw => by
  have hfc := run_firstCells_rd (P := P) (c := sc) (s := 1) (m := news.length) hR (by simp) hw (l := sl)
  obtain ⟨fz, hf, hO⟩ := hw.cel
  obtain ⟨w', hr, hT⟩ := run_storeCells_cel (P := P) (o := off) news 0 cur w hO.heap.1 hf (by simpa using ho) h1
  refine ⟨.value (.int .i64 news.length), w', _, _, ?_, put_act .., Own.intro_cel (fz := fz) (by rw [splice_length ho]; exact hf) (hO.turned (by simpa using hT)), h⟩
  have hmin : Nat.min sl dl = news.length := hn.symm
  simp [execOp, resolve, invoke, builtin, hx, hy, Builtin.copy_, run_underlying ht, run_sizeOf_of hs, Builtin.lenOf, hmin, hfc, hr, goInt]
theorem forIn_u8s {w : World} {f : Value → ByteArray → Sem (ForInStep ByteArray)} (hf : ∀ b r, (f (u8v b) r).run P w = .ok (.yield (r.push b)) w) : ∀ (bs : List UInt8) (acc : ByteArray), (forIn (u8s bs) acc f).run P w = .ok (acc ++ ⟨bs.toArray⟩) w
 | [], acc => by simp [u8s]; apply ByteArray.ext; simp
 | b :: bs, acc => by
  have := forIn_u8s hf bs (acc.push b)
  simp only [u8s, List.map_cons, List.forIn_cons, Sem.run_bind, hf, Result.andThen_ok] at this ⊢
  rw [this]
  congr 1
  apply ByteArray.ext
  simp
theorem vstr {bs : List UInt8} {src dst : TypeId} (hs : P.underlying src = some (.slice e)) (he : P.underlying e = some (.int .u8)) (hd : P.underlying dst = some .string) (hx : ev n ρ x = .slice base l c) (hR : RdC w0 A base (u8s bs)) (hl : l = bs.length) {dd : Option Tmp} {g : Option (Nat × Bool)} :
  Val P w0 n ρ A ⟨dd, .convert src dst x, T, pos, af, g⟩ (.string ⟨bs.toArray⟩) := fun w hw => by
 subst hl
 have hR := hR w hw
 have key : (convert src dst (.slice base bs.length c)).run P w = .ok (.string ⟨bs.toArray⟩) w := by
  cases base with
  | none =>
   have : bs = [] := by
    cases bs with
    | nil => rfl
    | cons v vs => obtain ⟨a, ha, _⟩ := hR 0 _ rfl; cases ha
   subst this
   exact run_convert_bytes_nil w src e hs he _ _ dst hd
  | some a =>
   have hl := run_loadCells_list (P := P) w a (u8s bs) (fun j v hv => by obtain ⟨a', ha, hc⟩ := hR j v hv; cases ha; exact hc)
   rw [u8s_length] at hl
   simp only [convert, Sem.run_bind, run_underlying hs, run_underlying hd, run_underlying he, Result.andThen_ok, Conv.bytesToString, hl]
   simp
   rw [forIn_u8s (fun b r => by simp [u8v])]
   simp
 simp [execOp, hx, key]
end
end Go.Sl
end
section
set_option linter.unusedVariables false
set_option linter.unusedSimpArgs false
namespace Go.Sl
open Go.RowKit
class CelAt (A : List HProp) (b : Nat) (vs : outParam (List Value)) (e : outParam TypeId) : Prop where
 mem : cel b vs e ∈ A
instance (priority := low) CelAt.tail {A : List HProp} {X : HProp} {b : Nat} {vs : List Value} {e : TypeId} [h : CelAt A b vs e] : CelAt (X :: A) b vs e := ⟨List.Mem.tail _ h.mem⟩
instance CelAt.head {A : List HProp} {b : Nat} {vs : List Value} {e : TypeId} : CelAt (cel b vs e :: A) b vs e := ⟨List.Mem.head _⟩
class Nth (l : List Value) (i : Nat) (v : outParam Value) : Prop where
 nth : l[i]? = some v
instance Nth.zero {x : Value} {l : List Value} : Nth (x :: l) 0 x := ⟨rfl⟩
instance Nth.succ {x v : Value} {l : List Value} {i : Nat} [h : Nth l i v] : Nth (x :: l) (i + 1) v := ⟨by simpa using h.nth⟩
class SetNth (l : List Value) (i : Nat) (v : Value) (l' : outParam (List Value)) : Prop where
 set : l.set i v = l'
 lt : i < l.length
instance SetNth.zero {x v : Value} {l : List Value} : SetNth (x :: l) 0 v (v :: l) := ⟨rfl, by simp⟩
instance SetNth.succ {x v : Value} {l l' : List Value} {i : Nat} [h : SetNth l i v l'] : SetNth (x :: l) (i + 1) v (x :: l') := ⟨by simp [h.set], by have := h.lt; simp; omega⟩
class Reads (w0 : World) (A : List HProp) (base : Option Addr) (vs : outParam (List Value)) : Prop where
 rd : RdC w0 A base vs
instance (priority := low) Reads.tail {w0 : World} {A : List HProp} {X : HProp} {base : Option Addr} {vs : List Value} [h : Reads w0 A base vs] : Reads w0 (X :: A) base vs := ⟨h.rd.cons⟩
instance Reads.row {w0 : World} {A : List HProp} {base : Option Addr} {c s : Nat} {e : TypeId} {vs : List Value} : Reads w0 (row base c s e vs :: A) base vs := ⟨RdC.of_row (List.Mem.head _)⟩
instance Reads.cel {w0 : World} {A : List HProp} {b : Nat} {e : TypeId} {vs : List Value} : Reads w0 (Sl.cel b vs e :: A) (some ⟨b, 0, none⟩) vs := ⟨RdC.of_cel 0 (List.Mem.head _) (by simp)⟩
theorem reads {w0 : World} {A : List HProp} {base : Option Addr} {vs : List Value} [h : Reads w0 A base vs] : RdC w0 A base vs := h.rd
section
variable {P : Program} {w0 : World} {n : Nat} {ops : Array Oper} {Q : Exit → Act → World → Prop} {ρ : Env} {A R : List HProp} {rest : List Oper} {T : TypeId} {pos : String} {af : Array Edge}
variable {x y : Operand} {t e : TypeId} {b i : Nat} {vs : List Value} {v : Value} {dd : Option Tmp} {g : Option (Nat × Bool)} {d gg : Nat} {gb : Bool} {op : Op}
theorem vldc (ht : plainT P t = true) (hx : ev n ρ x = .pointer (some ⟨b, i, none⟩)) [hc : CelAt A b vs e] [hi : Nth vs i v] : Val P w0 n ρ A ⟨dd, .load t x, T, pos, af, g⟩ v :=
 vld ht hx (CellC.of_cel hc.mem hi.nth)
theorem vldx (ht : plainT P t = true) (hx : ev n ρ x = .pointer (some ⟨b, i, none⟩)) [hc : CelAt A b vs e] (hi : vs[i]? = some v) : Val P w0 n ρ A ⟨dd, .load t x, T, pos, af, g⟩ v :=
 vld ht hx (CellC.of_cel hc.mem hi)
theorem stc {vs' : List Value} (ht : plainT P t = true) (hs : sizeT P t 1 = true) (hx : ev n ρ x = .pointer (some ⟨b, i, none⟩)) (hv : ev n ρ y = v) (h1 : v.oneCell' = true) [hi : SetNth vs i v vs']
  (h : WL P w0 n ops Q rest ρ (cel b vs' e :: R)) : WL P w0 n ops Q (⟨none, .store t x y, T, pos, af, none⟩ :: rest) ρ (cel b vs e :: R) :=
 st ht hs hx hv h1 (by rw [Nat.blt_eq]; exact hi.lt) (by rw [hi.set]; exact h)
theorem vldb {base : Option Addr} {j : Nat} {bs : List UInt8} (ht : plainT P t = true) (hx : ev n ρ x = .pointer (base.map (·.add j))) [hR : Reads w0 A base (u8s bs)] (hj : j < bs.length) : Val P w0 n ρ A ⟨dd, .load t x, T, pos, af, g⟩ (.int .u8 (bs[j].toNat : Int)) :=
 vld ht hx (hR.rd.cell (u8s_at hj))
theorem vldr {base : Option Addr} {j : Nat} (ht : plainT P t = true) (hx : ev n ρ x = .pointer (base.map (·.add j))) [hR : Reads w0 A base vs] (hj : vs[j]? = some v) : Val P w0 n ρ A ⟨dd, .load t x, T, pos, af, g⟩ v :=
 vld ht hx (hR.rd.cell hj)
theorem vixb {i : Int} {k : IntKind} {base : Option Addr} {l c : Nat} {bs : List UInt8} (ht : P.underlying t = some (.slice e)) (hs : sizeT P e 1 = true) (hx : ev n ρ x = .slice base l c) (hy : ev n ρ y = .int k i) (h0 : 0 ≤ i) (h1 : i < l) [hb : Reads w0 A base (u8s bs)] (hl : 0 < bs.length) :
  Val P w0 n ρ A ⟨dd, .indexAddr t x y, T, pos, af, g⟩ (.pointer (base.map (·.add i.toNat))) := vix1 ht hs hx hy h0 h1 hb.rd (by simpa using hl)
theorem vT {o : Oper} {p : Prop} [Decidable p] (hv : Val P w0 n ρ A o (.bool (decide p))) (h : p) : Val P w0 n ρ A o (.bool true) := by simpa [h] using hv
theorem vF {o : Oper} {p : Prop} [Decidable p] (hv : Val P w0 n ρ A o (.bool (decide p))) (h : ¬ p) : Val P w0 n ρ A o (.bool false) := by simpa [h] using hv
theorem vpeqF {ad : Addr} {t2 : TypeId} (ht : P.underlying t = some (.pointer e)) (hx : ev n ρ x = .pointer (some ad)) (hy : ev n ρ y = .pointer none) : Val P w0 n ρ A ⟨dd, .binOp .eql t x y t2, T, pos, af, g⟩ (.bool false) := vpeq ht hx hy
theorem vpeqT {t2 : TypeId} (ht : P.underlying t = some (.pointer e)) (hx : ev n ρ x = .pointer none) (hy : ev n ρ y = .pointer none) : Val P w0 n ρ A ⟨dd, .binOp .eql t x y t2, T, pos, af, g⟩ (.bool true) := vpeq ht hx hy
theorem vpneT {ad : Addr} {t2 : TypeId} (ht : P.underlying t = some (.pointer e)) (hx : ev n ρ x = .pointer (some ad)) (hy : ev n ρ y = .pointer none) : Val P w0 n ρ A ⟨dd, .binOp .neq t x y t2, T, pos, af, g⟩ (.bool true) := vpne ht hx hy
theorem vpneF {t2 : TypeId} (ht : P.underlying t = some (.pointer e)) (hx : ev n ρ x = .pointer none) (hy : ev n ρ y = .pointer none) : Val P w0 n ρ A ⟨dd, .binOp .neq t x y t2, T, pos, af, g⟩ (.bool false) := vpne ht hx hy
def placesL (P : Program) : List Field → Option (List (Nat × Nat))
 | [] => some []
 | f :: fs => match P.info? f.type, placesL P fs with
  | some i, some l => some ((f.offset, i.size) :: l)
  | _, _ => none
theorem run_places {P : Program} {w : World} : ∀ (fs : List Field) (pl : List (Nat × Nat)), placesL P fs = some pl → (fs.mapM (fun f => do pure (f.offset, ← sizeOf f.type)) : Sem (List (Nat × Nat))).run P w = .ok pl w
 | [], pl, h => by simp [placesL] at h; subst h; simp
 | f :: fs, pl, h => by
  simp only [placesL] at h
  cases hi : P.info? f.type with
  | none => simp [hi] at h
  | some i =>
   cases hl : placesL P fs with
   | none => simp [hi, hl] at h
   | some l =>
    simp [hi, hl] at h
    subst h
    have := run_places (w := w) fs l hl
    simp only [List.mapM_cons, Sem.run_bind, sizeOf, typeInfo, run_program, Result.andThen_ok, hi, Sem.run_pure] at this ⊢
    rw [this]
    rfl
def structT (P : Program) (t : TypeId) : Option (List (Nat × Nat)) := match P.underlying t with
 | some (.struct fs) => placesL P fs.toList
 | _ => none
def fillL (pl : List (Nat × Nat)) : List Value → List (Nat × Value) → Option (List Value)
 | cs, [] => some cs
 | cs, (i, v) :: rest => match pl[i]? with
  | none => none
  | some (off, size) => if v.cells.size ≠ size || off + v.cells.size > cs.length then none else fillL pl (splice cs off v.cells.toList) rest
theorem foldl_splice (vs : List Value) : ∀ (cs : Array Value) (off k : Nat), off + k + vs.length ≤ cs.size → (vs.zipIdx k).foldl (fun (cs : Array Value) (x : Value × Nat) => cs.setIfInBounds (off + x.2) x.1) cs = (splice cs.toList (off + k) vs).toArray := by
 induction vs with
 | nil => intro cs off k h; simp [splice]
 | cons v vs ih =>
  intro cs off k h
  simp only [List.length_cons] at h
  simp only [List.zipIdx_cons, List.foldl_cons]
  rw [ih _ _ _ (by simp; omega)]
  congr 1
  unfold splice
  apply List.ext_getElem?
  intro j
  simp only [Array.toList_setIfInBounds, List.getElem?_append, List.length_append, List.length_take, List.length_set, List.getElem?_take, List.getElem?_drop, List.getElem?_set, List.length_cons, List.getElem?_cons, Array.length_toList]
  repeat' split
  all_goals (try omega)
  all_goals (try rfl)
  all_goals (try (congr 1; omega))
theorem fill_fillL (pl : List (Nat × Nat)) : ∀ (ps : List (Nat × Value)) (cs : Array Value), Instr.fill (fun x => pl.toArray[x]?) cs ps = (fillL pl cs.toList ps).map List.toArray
 | [], cs => by simp [Instr.fill, fillL]
 | (i, v) :: rest, cs => by
  simp only [Instr.fill, fillL, List.getElem?_toArray]
  cases pl[i]? with
  | none => rfl
  | some os =>
   obtain ⟨off, size⟩ := os
   simp only [Array.length_toList]
   split
   ·rfl
   ·rename_i hne
    have h2 : off + v.cells.size ≤ cs.size := by
     simp only [Bool.or_eq_true, decide_eq_true_eq, not_or] at hne; omega
    have := foldl_splice v.cells.toList cs off 0 (by simpa using h2)
    have e : v.cells.zipIdx.foldl (fun (cs : Array Value) (x : Value × Nat) => cs.setIfInBounds (off + x.2) x.1) cs = (splice cs.toList off v.cells.toList).toArray := by
     rw [← Array.foldl_toList]
     simpa using this
    have e' : (Array.foldl (fun cs x => match x with | (c, j) => cs.setIfInBounds (off + j) c) cs v.cells.zipIdx) = (splice cs.toList off v.cells.toList).toArray := e
    rw [e']
    have ih := fill_fillL pl rest (splice cs.toList off v.cells.toList).toArray
    simpa using ih
def partsL (n : Nat) (ρ : Env) : List (Nat × Operand) → List (Nat × Value)
 | [] => []
 | (i, x) :: l => (i, ev n ρ x) :: partsL n ρ l
theorem vbd {zv : Value} {s by_ : Nat} {pl : List (Nat × Nat)} {parts : List (Nat × Operand)} {ps : List (Nat × Value)} {cs : List Value} (ht : structT P t = some pl) (hz : zeroT P t zv s by_) (hp : partsL n ρ parts = ps) (hf : fillL pl zv.cells.toList ps = some cs) : Val P w0 n ρ A ⟨dd, .build t parts.toArray, T, pos, af, g⟩ (.agg cs.toArray) := fun w _ => by
 unfold structT at ht
 split at ht
 ·rename_i fs h1
  obtain ⟨i, h2, h3, _, _⟩ := hz
  have h5 := run_places (P := P) (w := w) fs.toList pl ht
  have h5' : (fs.mapM fun f => do pure (f.offset, ← sizeOf f.type) : Sem (Array (Nat × Nat))).run P w = .ok pl.toArray w := by
   rw [Array.mapM_eq_mapM_toList, Sem.run_map, h5]; rfl
  have hpl : ∀ l : List (Nat × Operand), l.map (fun p => (p.1, ev n ρ p.2)) = partsL n ρ l := by
   intro l; induction l with
   | nil => rfl
   | cons x l ih => simp [partsL, ih]
  have hp' : (parts.toArray.map fun (i, x) => (i, ev n ρ x)).toList = ps := by rw [← hp, ← hpl]; simp
  simp only [execOp, Instr.build, Sem.run_bind, run_underlying h1, Result.andThen_ok, zeroValue, typeInfo, run_program, h2, Sem.run_pure, h3, h5', hp', fill_fillL, hf, Option.map_some]
 ·cases ht
theorem svs {p : Prop} [Decidable p] (hv : Val P w0 n ρ A ⟨some d, op, T, pos, af, none⟩ (.bool (decide p))) (ht : p → WL P w0 n ops Q rest (set ρ d (.bool true)) A) (hf : ¬ p → WL P w0 n ops Q rest (set ρ d (.bool false)) A) :
  WL P w0 n ops Q (⟨some d, op, T, pos, af, none⟩ :: rest) ρ A := by
 by_cases h : p
 ·exact sv hv (by simpa [h] using ht h)
 ·exact sv hv (by simpa [h] using hf h)
theorem svsg {p : Prop} [Decidable p] (hg : yieldN n ρ ops gg = some gb) (hv : Val P w0 n ρ A ⟨some d, op, T, pos, af, some (gg, gb)⟩ (.bool (decide p))) (ht : p → WL P w0 n ops Q rest (set ρ d (.bool true)) A) (hf : ¬ p → WL P w0 n ops Q rest (set ρ d (.bool false)) A) :
  WL P w0 n ops Q (⟨some d, op, T, pos, af, some (gg, gb)⟩ :: rest) ρ A := by
 by_cases h : p
 ·exact svg hg hv (by simpa [h] using ht h)
 ·exact svg hg hv (by simpa [h] using hf h)
theorem svb {p : Bool} (hv : Val P w0 n ρ A ⟨some d, op, T, pos, af, none⟩ (.bool p)) (ht : p = true → WL P w0 n ops Q rest (set ρ d (.bool true)) A) (hf : p = false → WL P w0 n ops Q rest (set ρ d (.bool false)) A) :
  WL P w0 n ops Q (⟨some d, op, T, pos, af, none⟩ :: rest) ρ A := by
 cases p
 ·exact sv hv (hf rfl)
 ·exact sv hv (ht rfl)
theorem svbg {p : Bool} (hg : yieldN n ρ ops gg = some gb) (hv : Val P w0 n ρ A ⟨some d, op, T, pos, af, some (gg, gb)⟩ (.bool p)) (ht : p = true → WL P w0 n ops Q rest (set ρ d (.bool true)) A) (hf : p = false → WL P w0 n ops Q rest (set ρ d (.bool false)) A) :
  WL P w0 n ops Q (⟨some d, op, T, pos, af, some (gg, gb)⟩ :: rest) ρ A := by
 cases p
 ·exact svg hg hv (hf rfl)
 ·exact svg hg hv (ht rfl)
theorem qvs {p : Prop} [Decidable p] (hv : Val P w0 n ρ A ⟨some d, op, T, pos, af, none⟩ (.bool (decide p))) (ht : p → WQ P w0 n ops Q rest (set ρ d (.bool true)) A) (hf : ¬ p → WQ P w0 n ops Q rest (set ρ d (.bool false)) A) :
  WQ P w0 n ops Q (⟨some d, op, T, pos, af, none⟩ :: rest) ρ A := by
 by_cases h : p
 ·exact qv hv (by simpa [h] using ht h)
 ·exact qv hv (by simpa [h] using hf h)
theorem qvsg {p : Prop} [Decidable p] (hg : yieldN n ρ ops gg = some gb) (hv : Val P w0 n ρ A ⟨some d, op, T, pos, af, some (gg, gb)⟩ (.bool (decide p))) (ht : p → WQ P w0 n ops Q rest (set ρ d (.bool true)) A) (hf : ¬ p → WQ P w0 n ops Q rest (set ρ d (.bool false)) A) :
  WQ P w0 n ops Q (⟨some d, op, T, pos, af, some (gg, gb)⟩ :: rest) ρ A := by
 by_cases h : p
 ·exact qvg hg hv (by simpa [h] using ht h)
 ·exact qvg hg hv (by simpa [h] using hf h)
theorem qvbg {p : Bool} (hg : yieldN n ρ ops gg = some gb) (hv : Val P w0 n ρ A ⟨some d, op, T, pos, af, some (gg, gb)⟩ (.bool p)) (ht : p = true → WQ P w0 n ops Q rest (set ρ d (.bool true)) A) (hf : p = false → WQ P w0 n ops Q rest (set ρ d (.bool false)) A) :
  WQ P w0 n ops Q (⟨some d, op, T, pos, af, some (gg, gb)⟩ :: rest) ρ A := by
 cases p
 ·exact qvg hg hv (hf rfl)
 ·exact qvg hg hv (ht rfl)
end
class Suff (A l : List HProp) : Prop where
 suf : ∀ w0 w, Own w0 A w → Own w0 l w
instance (priority := low) Suff.tail {X : HProp} {A l : List HProp} [h : Suff A l] : Suff (X :: A) l := ⟨fun w0 w H => h.suf w0 w H.tail⟩
instance Suff.refl {A : List HProp} : Suff A A := ⟨fun _ _ H => H⟩
theorem Own.suf {w0 w : World} {A l : List HProp} [h : Suff A l] (H : Own w0 A w) : Own w0 l w := h.suf _ _ H
section
variable {P : Program} {w0 : World} {n : Nat} {ops : Array Oper} {Q : Exit → Act → World → Prop} {ρ : Env} {A R : List HProp} {rest : List Oper} {T : TypeId} {pos : String} {af : Array Edge} {d gg : Nat} {gb : Bool} {op : Op} {dd : Option Tmp} {x : Operand}
theorem gy (hg : yieldN n ρ ops gg = some gb) (h : WL P w0 n ops Q (⟨dd, op, T, pos, af, none⟩ :: rest) ρ A) : WL P w0 n ops Q (⟨dd, op, T, pos, af, some (gg, gb)⟩ :: rest) ρ A := by
 refine ⟨fun w hw => ?_⟩
 have h' := h.run w hw
 have hw' : Region.wanted ⟨dd, op, T, pos, af, some (gg, gb)⟩ (yielded ops (act n ρ).tmps) = true := by
  simp only [Region.wanted, act, yielded_arr, hg, beq_self_eq_true]
 unfold wpList at h' ⊢
 rw [if_pos hw']
 rw [if_pos (by simp [Region.wanted])] at h'
 exact h'
end
def own (base : Option Addr) (e : TypeId) (vs : List Value) : HProp := fun h => (vs = [] ∧ emp h) ∨ ∃ g o cur, base = some ⟨g, o, none⟩ ∧ vs <+: cur.drop o ∧ cel g cur e h
section
variable {w0 w : World} {A R : List HProp} {base : Option Addr} {e : TypeId} {vs : List Value}
theorem Own.own (H : Own w0 (Sl.own base e vs :: R) w) : (vs = [] ∧ Own w0 R w) ∨ ∃ g o cur, base = some ⟨g, o, none⟩ ∧ vs <+: cur.drop o ∧ Own w0 (Sl.cel g cur e :: R) w := by
 obtain ⟨hb, h, ⟨h1, h2, a, a2, d, x⟩, hw⟩ := H
 rcases a with ⟨r1, _⟩ | ⟨g, o, cur, r1, r2, r3⟩
 ·exact .inl ⟨r1, Own.tail (A := fun _ => True) ⟨hb, h, ⟨h1, h2, trivial, a2, d, x⟩, hw⟩⟩
 ·exact .inr ⟨g, o, cur, r1, r2, hb, h, ⟨h1, h2, r3, a2, d, x⟩, hw⟩
theorem Own.intro_own {g o : Nat} {cur : List Value} (hp : vs <+: cur.drop o) (H : Own w0 (Sl.cel g cur e :: R) w) : Own w0 (Sl.own (some ⟨g, o, none⟩) e vs :: R) w := H.head fun _ h => .inr ⟨g, o, cur, rfl, hp, h⟩
theorem Own.intro_own_nil {base : Option Addr} (H : Own w0 R w) : Own w0 (Sl.own base e [] :: R) w := H.intro_emp.head fun _ h => .inl ⟨rfl, h⟩
instance Reads.own {w0 : World} {A : List HProp} {base : Option Addr} {e : TypeId} {vs : List Value} : Reads w0 (Sl.own base e vs :: A) base vs := ⟨fun w hw j v hv => by
 rcases hw.own with ⟨rfl, _⟩ | ⟨g, o, cur, rfl, hp, h⟩
 ·simp at hv
 ·exact RdC.of_cel (w0 := w0) (A := Sl.cel g cur e :: A) o (List.Mem.head _) hp w h j v hv⟩
theorem Own.own_slice (lo c : Nat) (hc : c = lo → vs.drop lo = []) (H : Own w0 (Sl.own base e vs :: R) w) : Own w0 (Sl.own (slB base lo c 1) e (vs.drop lo) :: R) w := by
 rcases H.own with ⟨rfl, h⟩ | ⟨g, o, cur, rfl, hp, h⟩
 ·simpa using h.intro_own_nil
 ·by_cases hcl : c = lo
  ·rw [hc hcl]; exact h.tail.intro_own_nil
  ·unfold slB
   rw [if_neg hcl]
   simp only [Option.map_some, add_at, Nat.mul_one]
   refine h.intro_own ?_
   rw [← List.drop_drop]
   obtain ⟨t, ht⟩ := hp
   by_cases hl : lo ≤ vs.length
   ·exact ⟨t, by rw [← ht, List.drop_append_of_le_length hl]⟩
   ·rw [List.drop_eq_nil_of_le (by omega)]; exact List.nil_prefix
end
section
variable {P : Program} {w0 : World} {A : List HProp} {f : FuncId} {args : List Value} {R : Ending → World → Prop} {n : Nat} {ρ : Env} {c : Code} {Q : Exit → Act → World → Prop} {ops : Array Oper} {l : List Oper}
theorem Fun.ex {ι : Type} {B : ι → List HProp} {q : ι → Prop} (hA : ∀ w, Own w0 A w → ∃ i, q i ∧ Own w0 (B i) w) (h : ∀ i, q i → Fun P w0 f args (B i) R) : Fun P w0 f args A R := ⟨fun w hw => by
 obtain ⟨i, hi, hO⟩ := hA w hw
 exact (h i hi).run w hO⟩
theorem WC.ex {ι : Type} {B : ι → List HProp} {q : ι → Prop} (hA : ∀ w, Own w0 A w → ∃ i, q i ∧ Own w0 (B i) w) (h : ∀ i, q i → WC P w0 n c Q ρ (B i)) : WC P w0 n c Q ρ A := ⟨fun w hw => by
 obtain ⟨i, hi, hO⟩ := hA w hw
 exact (h i hi).run w hO⟩
theorem WL.ex {ι : Type} {B : ι → List HProp} {q : ι → Prop} (hA : ∀ w, Own w0 A w → ∃ i, q i ∧ Own w0 (B i) w) (h : ∀ i, q i → WL P w0 n ops Q l ρ (B i)) : WL P w0 n ops Q l ρ A := ⟨fun w hw => by
 obtain ⟨i, hi, hO⟩ := hA w hw
 exact (h i hi).run w hO⟩
end
section
variable {P : Program} {w0 : World} {n : Nat} {ops : Array Oper} {Q : Exit → Act → World → Prop} {ρ : Env} {A A' R : List HProp} {rest : List Oper} {T T2 : TypeId} {pos pos2 : String} {af af2 : Array Edge} {d d1 : Nat} {x y : Operand} {t t2 e : TypeId} {base b2 : Option Addr} {l c m c2 : Nat} {xs ys : List UInt8}
theorem pm (hA : ∀ w, Own w0 A w → Own w0 A' w) (h : WL P w0 n ops Q rest ρ A') : WL P w0 n ops Q rest ρ A := h.perm hA
theorem cm {k : Code} (hA : ∀ w, Own w0 A w → Own w0 A' w) (h : WC P w0 n k Q ρ A') : WC P w0 n k Q ρ A := h.perm hA
theorem apb (ht : P.underlying t = some (.slice e)) (hz : zeroT P e (.int .u8 0) 1 1) (hx : ev n ρ x = .slice base l c) (hy : ev n ρ y = .slice b2 m c2) (hl : l = xs.length) (hm : m = ys.length) (hR : RdC w0 (row base c 1 e (u8s xs) :: R) b2 (u8s ys)) (h63 : l + m ≤ 140737488355328)
  (h : ∀ base' c', l + m ≤ c' → WL P w0 n ops Q rest (set ρ d (.slice base' (l + m) c')) (row base' c' 1 e (u8s (xs ++ ys)) :: R)) :
  WL P w0 n ops Q (⟨some d, .call ⟨.builtin .append, #[x, y], #[t, t]⟩, T, pos, af, none⟩ :: rest) ρ (row base c 1 e (u8s xs) :: R) :=
 ap rfl ht hz rfl hx hy (by simp [hl]) (by simp [hm]) (u8s_one ys) hR (by simp only [maxLen]; omega) (by omega) fun base' c' hc => by rw [← u8s_append]; exact h base' c' hc
theorem bsl0 (ht : P.underlying t = some (.slice e)) (hz : zeroT P e (.int .u8 0) 1 1)
  (h : ∀ g, WL P w0 n ops Q rest (set ρ d (.slice (some ⟨g, 0, none⟩) 0 0)) (row (some ⟨g, 0, none⟩) 0 1 e (u8s []) :: A)) :
  WL P w0 n ops Q (⟨some d, .buildSlice t 0 #[], T, pos, af, none⟩ :: rest) ρ A :=
 bsl_core [] ht hz rfl (by simp [enumP]) (by simp) (by simp) fun g => pm (fun w hw => hw.cel_row (by simp) (by simp [maxLen])) (h g)
end
theorem bT {E : Prop} [Decidable E] (h : E) : Value.bool true = .bool (decide E) := by simp [h]
theorem bF {E : Prop} [Decidable E] (h : ¬ E) : Value.bool false = .bool (decide E) := by simp [h]
theorem bI {E q : Prop} [Decidable E] [Decidable q] (h : q ↔ E) : Value.bool (decide q) = .bool (decide E) := by simp [h]
theorem bB {E : Prop} [Decidable E] {q : Bool} (h : q = true ↔ E) : Value.bool q = .bool (decide E) := by
 cases q
 ·simp at h; simp [h]
 ·simp at h; simp [h]
theorem iv {k : IntKind} {a b : Int} (h : a = b) : Value.int k a = .int k b := by rw [h]
section
variable {P : Program} {w0 : World} {n : Nat} {ops : Array Oper} {Q : Exit → Act → World → Prop} {ρ : Env} {A R : List HProp} {rest : List Oper} {T : TypeId} {pos : String} {af : Array Edge} {t e : TypeId}
end
section
variable {P : Program} {w0 : World} {n : Nat} {Q : Exit → Act → World → Prop} {ρ : Env} {A : List HProp} {x y : Code}
theorem WC.cutv {ι : Type} (C : ι → List (Nat × Value)) (V : List (Nat × Value)) (B : ι → List HProp) (R : ι → Prop) (_ : AllC V ρ)
  (hx : WC P w0 n x (Exit.then (Mid w0 n C V B R) Q) ρ A)
  (hy : ∀ i, R i → ∀ ρh, WC P w0 n y Q (setL (C i) (setL V ρh)) (B i)) : WC P w0 n (.seq x y) Q ρ A := WC.cut C V B R hx hy
end
section
variable {P : Program} {w0 : World} {n : Nat} {ops : Array Oper} {Q : Exit → Act → World → Prop} {ρ : Env} {A : List HProp} {rest : List Oper} {T t : TypeId} {pos : String} {af : Array Edge}
theorem alz {z : Value} {s by_ d : Nat} {cs : List Value} (hz : zeroT P t z s by_) (hc : z.cells.toList = cs) (h : ∀ b, WL P w0 n ops Q rest (set ρ d (.pointer (some ⟨b, 0, none⟩))) (cel b cs t :: A)) : WL P w0 n ops Q (⟨some d, .alloc t, T, pos, af, none⟩ :: rest) ρ A := by
 obtain ⟨i, hi, hz', _, _⟩ := hz
 subst hc
 exact al hi hz' h
theorem bxc {x : Operand} {v : Value} {d : Nat} {cs : List Value} (hx : ev n ρ x = v) (hc : v.cells.toList = cs) (h : ∀ b, WL P w0 n ops Q rest (set ρ d (.pointer (some ⟨b, 0, none⟩))) (cel b cs t :: A)) : WL P w0 n ops Q (⟨some d, .box t x, T, pos, af, none⟩ :: rest) ρ A := by
 subst hc
 exact bx hx h
end
section
variable {P : Program} {w0 : World} {n : Nat} {ops : Array Oper} {Q : Exit → Act → World → Prop} {ρ : Env} {A R : List HProp} {rest : List Oper} {T : TypeId} {pos : String} {af : Array Edge} {d : Nat} {x y : Operand} {t e : TypeId} {base b2 : Option Addr} {l m c2 : Nat} {xs ys : List UInt8}
theorem apf (ht : P.underlying t = some (.slice e)) (hz : zeroT P e (.int .u8 0) 1 1) (hx : ev n ρ x = .slice base l l) (hy : ev n ρ y = .slice b2 m c2) (hX : RdC w0 A base (u8s xs)) (hl : l = xs.length) (hR : RdC w0 A b2 (u8s ys)) (hm : m = ys.length) (h63 : l + m ≤ 140737488355328)
  (h : ∀ base' c' X, l + m ≤ c' → RdC w0 (X :: A) base' (u8s (xs ++ ys)) → WL P w0 n ops Q rest (set ρ d (.slice base' (l + m) c')) (X :: A)) :
  WL P w0 n ops Q (⟨some d, .call ⟨.builtin .append, #[x, y], #[t, t]⟩, T, pos, af, none⟩ :: rest) ρ A := by
 rcases Nat.eq_zero_or_pos m with h0 | h0
 ·subst h0
  have hn : ys = [] := List.eq_nil_of_length_eq_zero hm.symm
  subst hn
  refine WL.step rfl fun w hw => ?_
  obtain ⟨i, hi, hzz, hs1, hb1⟩ := hz
  have hlen : (Builtin.lenOf (.slice b2 0 c2)).run P w = .ok 0 w := by simp [Builtin.lenOf]
  have hfc := run_firstCells_rd (P := P) (c := c2) (s := 1) (m := 0) hR (by simp [u8s]) hw (l := 0)
  have hr : (Builtin.append_ #[t, t] T #[.slice base l l, .slice b2 0 c2]).run P w = .ok (.slice base (l + 0) l) w := by
   cases base <;> simp [Builtin.append_, run_underlying ht, sizeOf, typeInfo, hi, hlen, hfc, hs1, u8s, storeCells]
  exact ⟨.value (.slice base (l + 0) l), w, _, _, by simp [execOp, resolve, invoke, builtin, hx, hy, hr], put_act .., hw.intro_emp, h base l emp (by omega) (by rw [List.append_nil]; exact hX.cons)⟩
 ·exact apn (s := 1) (vs := u8s xs) (news := u8s ys) rfl ht hz rfl hx hy (by simp [hl]) (by simp [hm]) hX hR (by omega) (by simp only [maxLen]; omega) (by omega) fun base' c' hc => by
   rw [← u8s_append]
   exact h base' c' _ hc (RdC.of_row (List.Mem.head _))
theorem bsln {z : Value} {by_ : Nat} {parts : List (Nat × Operand)} {len : Nat} (xs : List Value) (ht : P.underlying t = some (.slice e)) (hz : zeroT P e z 1 by_) (hlen : len = xs.length) (hp : parts.map (fun p => (p.1, ev n ρ p.2)) = enumP 0 xs)
  (hx : ∀ v ∈ xs, v.cells = #[v]) (hl : xs.length ≤ 1000)
  (h : ∀ g, WL P w0 n ops Q rest (set ρ d (.slice (some ⟨g, 0, none⟩) len len)) (cel g xs e :: A)) :
  WL P w0 n ops Q (⟨some d, .buildSlice t len parts.toArray, T, pos, af, none⟩ :: rest) ρ A :=
 bsl_core xs ht hz hlen (by rw [← hp]; simp) hx hl (fun g => by rw [← hlen]; exact h g)
end
end Go.Sl
end
section
set_option linter.unusedVariables false
set_option linter.unusedSimpArgs false
namespace Go.Sl
open Go.RowKit
theorem i64_of_wf {a : Int} (h : (Lit.int .i64 a).wf = true) : -9223372036854775808 ≤ a ∧ a ≤ 9223372036854775807 := by
 have e1 : IntKind.i64.min = -9223372036854775808 := by decide
 simp [Lit.wf, IntKind.has, e1] at h
 omega
def Wz {H : Type} (P : Program) (t : TypeId) (d : DataW H) : Prop := ∀ m ∈ d.weights P t, m ≤ 140737488351232
structure Vw (P : Program) (w : World) (t : TypeId) {α : Type} (cells : α → List Value) (good : α → Prop) : Prop where
 view : ∀ {H : Type} (enc : TypeId × Value → H) (fuel : Nat) (cs : List Value) x, DataW.trod enc P w 0 (fun _ => true) true fuel t cs = some x → Wz P t x.1 → ∃ a, cs = cells a ∧ good a
structure Sla (α : Type) where
 base : Option Addr
 xs : List α
 cap : Nat
section
variable {P : Program} {w : World} {t e : TypeId} {α β : Type} {cells : α → List Value} {good : α → Prop} {cells2 : β → List Value} {good2 : β → Prop}
theorem Vw.turn (h : Vw P w t cells good) (f : α → β) (hc : ∀ a, good a → cells a = cells2 (f a) ∧ good2 (f a)) : Vw P w t cells2 good2 := ⟨fun enc fuel cs x hx hz => by
 obtain ⟨a, rfl, hg⟩ := h.view enc fuel cs x hx hz
 exact ⟨f a, (hc a hg).1, (hc a hg).2⟩⟩
theorem trod_pos {H : Type} {enc : TypeId × Value → H} {fuel : Nat} {cs : List Value} {x} (h : DataW.trod enc P w 0 (fun _ => true) true fuel t cs = some x) : ∃ n, DataW.trodStep enc P w 0 (fun _ => true) true (DataW.trod enc P w 0 (fun _ => true) true n) t cs = some x := by
 cases fuel with
 | zero => simp [DataW.trod] at h
 | succ n => exact ⟨n, by rw [← DataW.trod_step]; exact h⟩
theorem Vw.int {k : IntKind} (ht : P.underlying t = some (.int k)) : Vw P w t (fun a : Int => [.int k a]) (fun a => (Lit.int k a).wf = true) := ⟨fun enc fuel cs x h _ => by
 obtain ⟨n, h⟩ := trod_pos h
 unfold DataW.trodStep at h
 simp only [ht] at h
 split at h <;> simp_all⟩
theorem Vw.bool (ht : P.underlying t = some .bool) : Vw P w t (fun b : Bool => [.bool b]) (fun _ => True) := ⟨fun enc fuel cs x h _ => by
 obtain ⟨n, h⟩ := trod_pos h
 unfold DataW.trodStep at h
 simp only [ht] at h
 split at h <;> simp_all⟩
theorem Vw.string (ht : P.underlying t = some .string) : Vw P w t (fun s : ByteArray => [.string s]) (fun s => s.size ≤ 140737488351232) := ⟨fun enc fuel cs x h hz => by
 obtain ⟨n, h⟩ := trod_pos h
 unfold DataW.trodStep at h
 simp only [ht] at h
 split at h <;> try (simp_all; done)
 rename_i s _ _
 split at h
 ·simp only [Option.some.injEq] at h
  subst h
  exact ⟨s, rfl, hz s.data.toList.length (by simp [DataW.weights])⟩
 ·cases h⟩
theorem Vw.i64 (ht : P.underlying t = some (.int .i64)) : Vw P w t (fun a : Int => [.int .i64 a]) (fun a => -9223372036854775808 ≤ a ∧ a ≤ 9223372036854775807) :=
 (Vw.int ht).turn id fun a h => ⟨rfl, i64_of_wf h⟩
theorem mapM_some {α β : Type} {f : α → Option β} : ∀ {l : List α} {ys : List β}, l.mapM f = some ys → ys.length = l.length ∧ ∀ (i : Nat) (y : β), ys[i]? = some y → ∃ x : α, l[i]? = some x ∧ f x = some y
 | [], ys, h => by simp at h; subst h; simp
 | x :: l, ys, h => by
  simp only [List.mapM_cons, Option.bind_eq_bind, Option.bind_eq_some_iff, Option.pure_def, Option.some.injEq] at h
  obtain ⟨y, hy, zs, hz, rfl⟩ := h
  obtain ⟨h1, h2⟩ := mapM_some hz
  refine ⟨by simp [h1], fun i y' hi => ?_⟩
  cases i with
  | zero => simp at hi; subst hi; exact ⟨x, rfl, hy⟩
  | succ i => simpa using h2 i y' (by simpa using hi)
theorem choose_list {α : Type} {p : Nat → α → Prop} : ∀ (n : Nat), (∀ i, i < n → ∃ a, p i a) → ∃ l : List α, l.length = n ∧ ∀ i a, l[i]? = some a → p i a
 | 0, _ => ⟨[], rfl, by simp⟩
 | n + 1, h => by
  obtain ⟨l, h1, h2⟩ := choose_list n fun i hi => h i (by omega)
  obtain ⟨a, ha⟩ := h n (by omega)
  refine ⟨l ++ [a], by simp [h1], fun i b hb => ?_⟩
  by_cases hi : i < l.length
  ·rw [List.getElem?_append_left hi] at hb; exact h2 i b hb
  ·rw [List.getElem?_append_right (by omega)] at hb
   have : i - l.length = 0 := by
    rcases Nat.eq_zero_or_pos (i - l.length) with h | h
    ·exact h
    ·rw [List.getElem?_eq_none (by simp; omega)] at hb; cases hb
   rw [this] at hb
   simp at hb
   subst hb
   have : i = n := by omega
   subst this; exact ha
theorem flat_get {l : List (List Value)} {s : Nat} (hs : ∀ x ∈ l, x.length = s) : ∀ {j : Nat} {v : Value}, l.flatten[j]? = some v → ∃ i k cs, l[i]? = some cs ∧ cs[k]? = some v ∧ j = i * s + k ∧ k < s := by
 induction l with
 | nil => intro j v h; simp at h
 | cons x l ih =>
  intro j v h
  have hx := hs x (by simp)
  rw [List.flatten_cons] at h
  by_cases hj : j < x.length
  ·rw [List.getElem?_append_left hj] at h
   exact ⟨0, j, x, rfl, h, by omega, by omega⟩
  ·rw [List.getElem?_append_right (by omega)] at h
   obtain ⟨i, k, cs, h1, h2, h3, h4⟩ := ih (fun y hy => hs y (by simp [hy])) h
   exact ⟨i + 1, k, cs, by simpa using h1, h2, by rw [Nat.add_mul]; omega, h4⟩
theorem weights_all {H : Type} {e : TypeId} {d : DataW H} : ∀ {l : List (DataW H)}, d ∈ l → ∀ m ∈ d.weights P e, m ∈ DataW.weightsAll P e l
 | [], h, _, _ => by cases h
 | c :: l, h, m, hm => by
  simp only [DataW.weightsAll, List.mem_append]
  rcases List.mem_cons.1 h with rfl | h
  ·exact .inl hm
  ·exact .inr (weights_all h m hm)
theorem Vw.slice {s : Nat} (ht : P.underlying t = some (.slice e)) (hs : P.cellsOf e = s) (h : Vw P w e cells good) :
  Vw P w t (fun a : Sla α => [.slice a.base a.xs.length a.cap]) (fun a => a.xs.length ≤ a.cap ∧ a.cap ≤ maxLen ∧ Rd w a.base (a.xs.flatMap cells) ∧ (∀ x ∈ a.xs, good x ∧ (cells x).length = s)) := ⟨fun enc fuel cs x hx hz => by
 obtain ⟨n, hx⟩ := trod_pos hx
 unfold DataW.trodStep at hx
 simp only [ht] at hx
 split at hx <;> try (simp_all; done)
 ·exact ⟨⟨none, [], 0⟩, rfl, by simp, by simp [maxLen], fun j v hv => by simp at hv, by simp⟩
 ·rename_i e' a len cap hu h00
  simp only [Option.some.injEq, TypeDesc.slice.injEq] at hu
  subst hu
  rw [hs] at hx
  split at hx
  ·rename_i hc
   simp only [Option.bind_eq_some_iff] at hx
   obtain ⟨elems, hel, hx⟩ := hx
   have hze : ∀ (i : Nat) y, elems[i]? = some y → Wz P e y.1 := by
    rw [Option.map_eq_some_iff] at hx
    obtain ⟨rest, _, hx⟩ := hx
    intro i y hy m hm
    refine hz m ?_
    rw [← hx]
    simp only [DataW.weights, ht, List.mem_cons, List.mem_append]
    exact .inr (.inl (weights_all (List.mem_map.2 ⟨y, List.mem_of_getElem? hy, rfl⟩) m hm))
   obtain ⟨h1, h2⟩ := mapM_some hel
   simp only [List.length_range] at h1
   have h3 : ∀ i, i < len → ∃ y : α, good y ∧ (cells y).length = s ∧ ∀ k v, (cells y)[k]? = some v → w.cell? (a.add (i * s + k)) = some v := by
    intro i hi
    obtain ⟨y, hy⟩ : ∃ y, elems[i]? = some y := ⟨_, List.getElem?_eq_getElem (by omega)⟩
    obtain ⟨i', hi', hy'⟩ := h2 i y hy
    rw [List.getElem?_range (by omega)] at hi'
    simp at hi'; subst hi'
    simp only [Option.bind_eq_some_iff] at hy'
    obtain ⟨cs, hcs, hr⟩ := hy'
    obtain ⟨b, rfl, hg⟩ := h.view enc _ _ _ hr (hze i y hy)
    unfold World.cells? at hcs
    split at hcs
    ·obtain ⟨g1, g2⟩ := mapM_some hcs
     simp only [List.length_range] at g1
     refine ⟨b, hg, g1, fun k v hv => ?_⟩
     obtain ⟨k', hk', hv'⟩ := g2 k v hv
     have hk : k < s := by rw [← g1]; exact (List.getElem?_eq_some_iff.1 hv).1
     rw [List.getElem?_range hk] at hk'
     simp at hk'; subst hk'
     rw [← hv', Addr.add_add]
    ·cases hcs
   obtain ⟨l, hl, hp⟩ := choose_list len h3
   have hgl : ∀ x ∈ l, good x ∧ (cells x).length = s := by
    intro x hx
    obtain ⟨i, hi⟩ := List.mem_iff_getElem?.1 hx
    exact ⟨(hp i x hi).1, (hp i x hi).2.1⟩
   refine ⟨⟨some a, l, cap⟩, by simp [hl], by simp [hl, hc.2.1], hc.2.2, fun j v hv => ?_, hgl⟩
   rw [List.flatMap_def] at hv
   obtain ⟨i, k, cs, g1, g2, g3, g4⟩ := flat_get (s := s) (by intro x hx; simp at hx; obtain ⟨y, hy, rfl⟩ := hx; exact (hgl y hy).2) hv
   simp only [List.getElem?_map, Option.map_eq_some_iff] at g1
   obtain ⟨y, hy, rfl⟩ := g1
   exact ⟨a, rfl, by rw [g3]; exact (hp i y hy).2.2 k v g2⟩
  ·cases hx⟩
structure Vf (P : Program) (w : World) (fs : List Field) (o : Nat) {α : Type} (cells : α → List Value) (good : α → Prop) : Prop where
 view : ∀ {H : Type} (enc : TypeId × Value → H) (fuel : Nat) (cs : List Value) xs, fs.mapM (fun f => DataW.trod enc P w 0 (fun _ => true) true fuel f.type ((cs.drop f.offset).take (P.cellsOf f.type))) = some xs → (∀ m ∈ DataW.weightsEach P (fs.map fun f => f.type) (xs.map (·.1)), m ≤ 140737488351232) → ∃ a, (cs.drop o).take (fs.map fun f => P.cellsOf f.type).sum = cells a ∧ good a
theorem Vf.nil {o : Nat} : Vf P w [] o (fun _ : Unit => []) (fun _ => True) := ⟨fun enc fuel cs xs h _ => ⟨(), by simp, trivial⟩⟩
theorem Vf.cons {f : Field} {fs : List Field} {o s : Nat} (h1 : Vw P w f.type cells good) (ho : f.offset = o) (hs : P.cellsOf f.type = s) (h2 : Vf P w fs (o + s) cells2 good2) :
  Vf P w (f :: fs) o (fun p : α × β => cells p.1 ++ cells2 p.2) (fun p => good p.1 ∧ good2 p.2) := ⟨fun enc fuel cs xs h hz => by
 simp only [List.mapM_cons, Option.bind_eq_bind, Option.bind_eq_some_iff, Option.pure_def, Option.some.injEq] at h
 obtain ⟨y, hy, zs, hzs, rfl⟩ := h
 obtain ⟨a, ha, hga⟩ := h1.view enc _ _ _ hy fun m hm => hz m (by simp only [List.map_cons, DataW.weightsEach, List.mem_append]; exact .inl hm)
 obtain ⟨b, hb, hgb⟩ := h2.view enc _ _ _ hzs fun m hm => hz m (by simp only [List.map_cons, DataW.weightsEach, List.mem_append]; exact .inr hm)
 refine ⟨(a, b), ?_, hga, hgb⟩
 rw [← ha, ← hb, ho, hs, List.map_cons, List.sum_cons, hs, List.take_add, List.drop_drop]⟩
theorem Vw.struct {fs : Array Field} {s : Nat} (ht : P.underlying t = some (.struct fs)) (hc : P.cellsOf t = s) (hs : (fs.toList.map fun f => P.cellsOf f.type).sum = s) (h : Vf P w fs.toList 0 cells good) : Vw P w t cells good := ⟨fun enc fuel cs x hx hz => by
 obtain ⟨n, hx⟩ := trod_pos hx
 unfold DataW.trodStep at hx
 simp only [ht] at hx
 split at hx
 ·rename_i hl
  simp only [Option.map_eq_some_iff] at hx
  obtain ⟨xs, hxs, hx⟩ := hx
  obtain ⟨a, ha, hg⟩ := h.view enc _ _ _ hxs fun m hm => hz m (by rw [← hx]; simp only [DataW.weights, ht]; exact hm)
  refine ⟨a, ?_, hg⟩
  rw [← ha, hs, List.drop_zero, List.take_of_length_le (by omega)]
 ·cases hx⟩
def bss (l : List (Sla UInt8)) : List Value := l.map fun a => .slice a.base a.xs.length a.cap
theorem flat_one {α : Type} (f : α → Value) (l : List α) : l.flatMap (fun a => [f a]) = l.map f := by
 induction l with
 | nil => rfl
 | cons a l ih => rw [List.flatMap_cons, ih]; rfl
@[simp] theorem bss_length (l : List (Sla UInt8)) : (bss l).length = l.length := by simp [bss]
theorem bss_at {l : List (Sla UInt8)} {i : Nat} (h : i < l.length) : (bss l)[((i : Int)).toNat]? = some (.slice l[i].base l[i].xs.length l[i].cap) := by simp [bss, h]
theorem slice_cells {a : Option Addr} {l c : Nat} {b : Option Addr} {l2 c2 : Nat} (h : (Value.slice a l c).cells.toList = [.slice b l2 c2]) : Value.slice a l c = .slice b l2 c2 := by
 simp [Value.cells] at h
 simp [h]
end
section
variable {P : Program} {ops : Array Oper} {md : Region.Mode} {Good : (World → Prop) → Prop}
def stepG (P : Program) (Good : (World → Prop) → Prop) (o : Oper) (a : Act) (C : World → Prop) (K : Act → (World → Prop) → Prop) : Prop :=
 ∀ w, C w → o.wp P a w (fun a' w' => ∃ C', Good C' ∧ C' w' ∧ K a' C') (fun _ _ _ => False)
def opG (P : Program) (ops : Array Oper) (Good : (World → Prop) → Prop) (i : Nat) (K : Act → (World → Prop) → Prop) (a : Act) (C : World → Prop) : Prop :=
 match ops[i]? with
 | none => K a C
 | some o => if Region.wanted o (yielded ops a.tmps) then stepG P Good o a C K else K (a.put o.dst undef) C
def anyG (P : Program) (md : Region.Mode) (ops : Array Oper) (bs : List Nat × List Nat) (Q : Act → (World → Prop) → Prop) : Nat → ((World → Prop) → Prop) → Array Bool → Act → (World → Prop) → Prop
 | 0, _, listed, a, C => Region.ready md ops listed = [] ∧ Q a C
 | fuel + 1, Good, listed, a, C => (Region.ready md ops listed = [] → Q a C) ∧ ∀ i ∈ Region.ready md ops listed,
  (bs.1.contains i = false → opG P ops (fun C' => Good C' ∧ (bs.2.contains i = false → C' = C)) i (anyG P md ops bs Q fuel Good (listed.setIfInBounds i true)) a C) ∧
  (bs.1.contains i = true → opG P ops (fun _ => True) i (fun a C => ∃ Good', Good' C ∧ anyG P md ops bs Q fuel Good' (listed.setIfInBounds i true) a C) a C)
theorem stepG_mono {Good' : (World → Prop) → Prop} {o : Oper} {a : Act} {C : World → Prop} {K K' : Act → (World → Prop) → Prop} (hg : ∀ C, Good C → Good' C) (h : ∀ a C, Good C → K a C → K' a C) (hh : stepG P Good o a C K) : stepG P Good' o a C K' :=
 fun w hw => Oper.wp_mono (fun a' w' ⟨C', h1, h2, h3⟩ => ⟨C', hg _ h1, h2, h _ _ h1 h3⟩) (hh w hw)
theorem opG_mono {Good' : (World → Prop) → Prop} {i : Nat} {a : Act} {C : World → Prop} {K K' : Act → (World → Prop) → Prop} (hC : Good C) (hg : ∀ C, Good C → Good' C) (h : ∀ a C, Good C → K a C → K' a C) (hh : opG P ops Good i K a C) : opG P ops Good' i K' a C := by
 unfold opG at *
 split
 ·rename_i ho; simp only [ho] at hh; exact h _ _ hC hh
 ·rename_i o ho
  simp only [ho] at hh
  split
  ·rename_i hw; simp only [hw, if_true] at hh; exact stepG_mono hg h hh
  ·rename_i hw; simp only [hw] at hh; exact h _ _ hC hh
theorem anyG_mono {bs : List Nat × List Nat} {Good' : (World → Prop) → Prop} {Q : Act → (World → Prop) → Prop} (hg : ∀ C, Good C → Good' C) : ∀ (fuel : Nat) (listed : Array Bool) (a : Act) (C : World → Prop), Good C →
  anyG P md ops bs Q fuel Good listed a C → anyG P md ops bs Q fuel Good' listed a C
 | 0, _, _, _, _, h => h
 | fuel + 1, _, _, _, hC, h => ⟨h.1, fun i hi => ⟨fun hb => opG_mono ⟨hC, fun _ => rfl⟩ (fun C' h => ⟨hg C' h.1, h.2⟩) (fun a C hC h => anyG_mono hg fuel _ a C hC.1 h) ((h.2 i hi).1 hb), (h.2 i hi).2⟩⟩
def QuietG (P : Program) (ops : Array Oper) (Good : (World → Prop) → Prop) (o : Oper) (v : Value) (a : Act) : Prop := ∀ C, Good C → YieldsIn P ops C o v a
theorem opG_yield {i : Nat} {o : Oper} {v : Value} {a : Act} {C : World → Prop} (hC : Good C) (hi : ops[i]? = some o) (hy : YieldsIn P ops C o v a) {K : Act → (World → Prop) → Prop} (h : K (a.put o.dst v) C) : opG P ops Good i K a C := by
 unfold Sl.opG
 simp only [hi]
 rcases hy with ⟨hw, hv⟩ | ⟨hw, rfl⟩
 ·simp only [hw, if_true]
  intro w hCw
  exact Oper.wp_of_quiet (C := C) (K := fun a' => K a' C) hCw (fun a' w' hw' hk => ⟨C, hC, hw', hk⟩) ⟨v, hv, h⟩
 ·simp only [hw, Bool.false_eq_true, if_false]; exact h
theorem opG_put {G2 : (World → Prop) → Prop} {j : Nat} {oi oj : Oper} {v : Value} (hj : ops[j]? = some oj) (hap : oi.apart ops oj = true) (hsi : ∀ cs b, oi.op ≠ .select cs b) (hsj : ∀ cs b, oj.op ≠ .select cs b)
  {K : Act → (World → Prop) → Prop} {a : Act} {C : World → Prop} (hy : QuietG P ops G2 oi v a) (h : opG P ops Good j K (a.put oi.dst v) C) :
  opG P ops Good j (fun a' C' => QuietG P ops G2 oi v a' ∧ K (a'.put oi.dst v) C') a C := by
 obtain ⟨h1, h2, h3⟩ := Oper.apart_spec hap
 have keep : ∀ (a : Act), QuietG P ops G2 oi v a → ∀ u, QuietG P ops G2 oi v (a.put oj.dst u) := fun a hy u C hC =>
  (hy C hC).of_same (execOp_put oi hsi a oj.dst u h3) (wanted_put oi a oj.dst u h3)
 have keepD : ∀ d, QuietG P ops G2 oi v { a with defers := d :: a.defers } := fun d C hC => (hy C hC).of_same rfl rfl
 unfold opG stepG at *
 simp only [hj] at *
 rw [wanted_put oj a oi.dst v h1] at h
 split
 ·rename_i hw
  simp only [hw, if_true] at h
  intro w hCw
  have h := h w hCw
  unfold Oper.wp at *
  rw [execOp_put oj hsj a oi.dst v h1] at h
  generalize (execOp a.eval oj).run P w = r at *
  cases r with
  | ok n w' =>
   cases n <;> simp only [Oper.upon] at h ⊢
   case value u =>
    obtain ⟨C', g1, g2, g3⟩ := h
    exact ⟨C', g1, g2, keep a hy u, by rw [← Act.put_comm a v u h2]; exact g3⟩
   case skip =>
    obtain ⟨C', g1, g2, g3⟩ := h
    exact ⟨C', g1, g2, keep a hy _, by rw [← Act.put_comm a v undef h2]; exact g3⟩
   case defer d =>
    obtain ⟨C', g1, g2, g3⟩ := h
    refine ⟨C', g1, g2, keep _ (keepD d) _, ?_⟩
    rw [← Act.put_comm _ v undef h2, ← Act.put_defers]
    exact g3
   case enter f args =>
    refine Calls.mono h fun e w'' he => ?_
    cases e with
    | returned u =>
     obtain ⟨C', g1, g2, g3⟩ := he
     exact ⟨C', g1, g2, keep a hy u, by rw [← Act.put_comm a v u h2]; exact g3⟩
    | panicked c => exact he
    | outgrown => exact he
   case row row args =>
    refine Rows.mono h fun u w'' he => ?_
    obtain ⟨C', g1, g2, g3⟩ := he
    exact ⟨C', g1, g2, keep a hy u, by rw [← Act.put_comm a v u h2]; exact g3⟩
  | halt x w' =>
   cases x <;> simp only [Oper.upon] at h
 ·rename_i hw
  simp only [hw] at h
  exact ⟨keep a hy _, by rw [← Act.put_comm a v undef h2]; exact h⟩
theorem anyG_first {bs : List Nat × List Nat} {G2 : (World → Prop) → Prop} {Q : Act → (World → Prop) → Prop} {i : Nat} {oi : Oper} {v : Value} (hi : ops[i]? = some oi) (hsel : ∀ (j : Nat) (o : Oper) cs b, ops[j]? = some o → o.op ≠ .select cs b) (hib : bs.1.contains i = false) (U : List Nat) :
  ∀ (fuel : Nat) (listed : Array Bool) (a : Act) (C : World → Prop), Good C → G2 C →
   (∀ u ∈ U, listed.getD u true = false ∧ ∃ o, ops[u]? = some o ∧ ∃ e ∈ o.after, Region.binds md e = true ∧ (e.on = i ∨ e.on ∈ U)) →
   (∀ j oj, ops[j]? = some oj → j ≠ i → listed.getD j true = false → (∀ e ∈ oj.after, Region.binds md e = true → e.on ≠ i) → oi.apart ops oj = true ∧ (bs.1.contains j = false ∨ j ∈ U) ∧ (bs.2.contains j = false ∨ j ∈ U ∨ ∀ C', Good C' → G2 C')) →
   i ∈ Region.ready md ops listed → QuietG P ops G2 oi v a →
   anyG P md ops bs Q fuel Good (listed.setIfInBounds i true) (a.put oi.dst v) C → anyG P md ops bs Q (fuel + 1) Good listed a C := by
 intro fuel
 induction fuel with
 | zero =>
  intro listed a C hC hG2 _ _ hr hy H
  refine ⟨fun h => (by rw [h] at hr; cases hr), fun j hj => ?_⟩
  by_cases hji : j = i
  ·subst hji; exact ⟨fun _ => opG_yield ⟨hC, fun _ => rfl⟩ hi (hy C hG2) H, fun h => by rw [hib] at h; cases h⟩
  ·have := ready_mono hj hji
   rw [H.1] at this
   cases this
 | succ fuel ih =>
  intro listed a C hC hG2 hU hfree hr hy H
  refine ⟨fun h => (by rw [h] at hr; cases hr), fun j hj => ?_⟩
  by_cases hji : j = i
  ·subst hji; exact ⟨fun _ => opG_yield ⟨hC, fun _ => rfl⟩ hi (hy C hG2) H, fun h => by rw [hib] at h; cases h⟩
  ·have h1 := H.2 j (ready_mono hj hji)
   obtain ⟨hjun, oj, hoj, hall⟩ := mem_ready.1 hj
   have clash : ∀ k, listed.getD k true = false → listed.getD k false = true → False := fun k h0 h1 => by
    rcases Nat.lt_or_ge k listed.size with h' | h'
    ·simp [h'] at h0 h1; rw [h0] at h1; cases h1
    ·simp [Array.getElem?_eq_none h'] at h1
   have hjU : j ∉ U := fun hju => by
    obtain ⟨_, o, ho, e, he, hb, hon⟩ := hU j hju
    rw [hoj] at ho; cases ho
    have h2 := hall e he hb
    rcases hon with hon | hon
    ·rw [hon] at h2; exact clash _ (mem_ready.1 hr).1 h2
    ·exact clash _ (hU _ hon).1 h2
   have hnot : ∀ e ∈ oj.after, Region.binds md e = true → e.on ≠ i := fun e he hb heq => by
    have h1 := hall e he hb
    have h0 := (mem_ready.1 hr).1
    rw [heq] at h1
    rcases Nat.lt_or_ge i listed.size with h' | h'
    ·simp [h'] at h0 h1; rw [h0] at h1; cases h1
    ·simp [Array.getElem?_eq_none h'] at h1
   have hap := hfree j oj hoj hji hjun hnot
   have hbj : bs.1.contains j = false := hap.2.1.resolve_right hjU
   have hst : ∀ C', Good C' → (bs.2.contains j = false → C' = C) → G2 C' := fun C' h1 h2 => by
    rcases hap.2.2 with h | h | h
    ·rw [h2 h]; exact hG2
    ·exact absurd h hjU
    ·exact h C' h1
   refine ⟨fun hb => ?_, fun h => by rw [hbj] at h; cases h⟩
   have h2 := opG_put hoj hap.1 (fun cs b => hsel i oi cs b hi) (fun cs b => hsel j oj cs b hoj) hy (h1.1 hb)
   have hfree' : ∀ k ok, ops[k]? = some ok → k ≠ i → (listed.setIfInBounds j true).getD k true = false →
     (∀ e ∈ ok.after, Region.binds md e = true → e.on ≠ i) → oi.apart ops ok = true ∧ (bs.1.contains k = false ∨ k ∈ U) ∧ (bs.2.contains k = false ∨ k ∈ U ∨ ∀ C', Good C' → G2 C') := fun k ok hk hki hun hno => by
    refine hfree k ok hk hki ?_ hno
    by_cases hjk : j = k
    ·subst hjk; exact hjun
    ·rw [getD_set_ne true hjk] at hun; exact hun
   have hU' : ∀ u ∈ U, (listed.setIfInBounds j true).getD u true = false ∧ ∃ o, ops[u]? = some o ∧ ∃ e ∈ o.after, Region.binds md e = true ∧ (e.on = i ∨ e.on ∈ U) := fun u hu => by
    refine ⟨?_, (hU u hu).2⟩
    have hne : j ≠ u := fun h => by subst h; exact hjU hu
    rw [getD_set_ne true hne]
    exact (hU u hu).1
   refine opG_mono ⟨hC, fun _ => rfl⟩ (fun _ h => h) (fun a' C' hC' h3 => ih (listed.setIfInBounds j true) a' C' hC'.1 (hst C' hC'.1 hC'.2) hU' hfree' (ready_mono hr (Ne.symm hji)) h3.1 ?_) h2
   rw [Array.setIfInBounds_comm _ _ hji]
   exact h3.2
theorem wpOp_of_opG {Q' : Exit → Act → World → Prop} {i : Nat} {a : Act} {C : World → Prop} {w : World} {K : Act → (World → Prop) → Prop} {K' : Act → World → Prop} (hw : C w) (hK : ∀ a C w, C w → K a C → K' a w) (h : opG P ops Good i K a C) : wpOp P ops Q' i K' a w := by
 unfold opG at h
 unfold wpOp
 split
 ·rename_i ho; simp only [ho] at h; exact hK _ _ _ hw h
 ·rename_i o ho
  simp only [ho] at h
  split
  ·rename_i hwd
   simp only [hwd, if_true] at h
   refine .inl ?_
   have h := h w hw
   unfold Oper.wp at *
   generalize (execOp a.eval o).run P w = r at *
   cases r with
   | ok n w' =>
    cases n <;> simp only [Oper.upon] at h ⊢
    case value u => obtain ⟨C', g1, g2, g3⟩ := h; exact hK _ _ _ g2 g3
    case skip => obtain ⟨C', g1, g2, g3⟩ := h; exact hK _ _ _ g2 g3
    case defer d => obtain ⟨C', g1, g2, g3⟩ := h; exact hK _ _ _ g2 g3
    case enter f args =>
     refine Calls.mono h fun e w'' he => ?_
     cases e with
     | returned u => obtain ⟨C', g1, g2, g3⟩ := he; exact hK _ _ _ g2 g3
     | panicked c => exact he.elim
     | outgrown => obtain ⟨_, _, he⟩ := he; exact he.elim
    case row row args =>
     refine Rows.mono h fun u w'' he => ?_
     obtain ⟨C', g1, g2, g3⟩ := he
     exact hK _ _ _ g2 g3
   | halt x w' => cases x <;> simp only [Oper.upon] at h
  ·rename_i hwd; simp only [hwd] at h; exact hK _ _ _ hw h
theorem wpAny_of_G {bs : List Nat × List Nat} {Q' : Exit → Act → World → Prop} : ∀ (fuel : Nat) (Good : (World → Prop) → Prop) (listed : Array Bool) (a : Act) (C : World → Prop) (w : World), C w →
  anyG P md ops bs (fun a C => ∀ w, C w → Q' .normal a w) fuel Good listed a C → wpAny P md ops Q' fuel listed a w
 | 0, _, _, _, _, _, hw, h => ⟨h.1, h.2 _ hw⟩
 | fuel + 1, Good, listed, a, C, w, hw, h => ⟨fun h0 => h.1 h0 _ hw, fun i hi => by
  cases hb : bs.1.contains i with
  | false => exact wpOp_of_opG hw (fun a C w hw h => wpAny_of_G fuel _ _ _ _ _ hw h) ((h.2 i hi).1 hb)
  | true => exact wpOp_of_opG hw (fun a C w hw ⟨_, _, h⟩ => wpAny_of_G fuel _ _ _ _ _ hw h) ((h.2 i hi).2 hb)⟩
inductive Plan
 | done (is : List Nat)
 | pre (is : List Nat) (p : Plan)
 | one (is : List Nat) (e : Nat) (p : Plan)
 | bar (is : List Nat) (e : Nat) (p : Plan)
 | two (is : List Nat) (e1 : Nat) (p1 : Plan) (e2 : Nat) (p2 : Plan)
def depU (md : Region.Mode) (ops : Array Oper) (listed : Array Bool) (i : Nat) : List Nat := (List.range ops.size).foldl (fun acc j => if !listed.getD j true && (match ops[j]? with
 | some o => o.after.any (fun e => Region.binds md e && (e.on == i || acc.contains e.on))
 | none => false) then j :: acc else acc) []
def okU (md : Region.Mode) (ops : Array Oper) (listed : Array Bool) (i : Nat) (U : List Nat) : Bool := U.all fun u => !listed.getD u true && match ops[u]? with
 | some o => o.after.any (fun e => Region.binds md e && (e.on == i || U.contains e.on))
 | none => false
def freeB (md : Region.Mode) (ops : Array Oper) (bs : List Nat × List Nat) (listed : Array Bool) (i : Nat) : Bool := !bs.1.contains i && (okU md ops listed i (depU md ops listed i) && bs.1.all fun j => listed.getD j true || (depU md ops listed i).contains j)
def freeL (md : Region.Mode) (ops : Array Oper) (bs : List Nat × List Nat) (listed : Array Bool) (i : Nat) : Bool := freeB md ops bs listed i && bs.2.all fun j => listed.getD j true || (depU md ops listed i).contains j
theorem okU_spec {listed : Array Bool} {i : Nat} {U : List Nat} (h : okU md ops listed i U = true) : ∀ u ∈ U, listed.getD u true = false ∧ ∃ o, ops[u]? = some o ∧ ∃ e ∈ o.after, Region.binds md e = true ∧ (e.on = i ∨ e.on ∈ U) := by
 intro u hu
 simp only [okU, List.all_eq_true] at h
 have h1 := h u hu
 simp only [Bool.and_eq_true, Bool.not_eq_true'] at h1
 refine ⟨h1.1, ?_⟩
 have h2 := h1.2
 cases ho : ops[u]? with
 | none => simp [ho] at h2
 | some o =>
  simp only [ho] at h2
  obtain ⟨e, he, h3⟩ := Array.any_eq_true'.1 h2
  simp only [Bool.and_eq_true, Bool.or_eq_true, beq_iff_eq, List.contains_iff_mem] at h3
  exact ⟨o, rfl, e, he, h3.1, h3.2⟩
def scriptB (md : Region.Mode) (ops : Array Oper) (bs : List Nat × List Nat) : List Nat → Array Bool → (Array Bool → Bool) → Bool
 | [], listed, k => k listed
 | i :: is, listed, k => ((Region.ready md ops listed).contains i && (Region.free md ops listed i && freeB md ops bs listed i)) && scriptB md ops bs is (listed.setIfInBounds i true) k
def scriptL (md : Region.Mode) (ops : Array Oper) (bs : List Nat × List Nat) : List Nat → Array Bool → (Array Bool → Bool) → Bool
 | [], listed, k => k listed
 | i :: is, listed, k => ((Region.ready md ops listed).contains i && (Region.free md ops listed i && freeL md ops bs listed i)) && scriptL md ops bs is (listed.setIfInBounds i true) k
def planB (md : Region.Mode) (ops : Array Oper) (bs : List Nat × List Nat) : Plan → Array Bool → Bool
 | .done is, listed => scriptB md ops bs is listed fun l => (Region.ready md ops l).isEmpty
 | .pre is p, listed => scriptL md ops bs is listed fun l => planB md ops bs p l
 | .one is e p, listed => scriptB md ops bs is listed fun l => (Region.ready md ops l == [e] && (!bs.1.contains e && bs.2.contains e)) && planB md ops bs p (l.setIfInBounds e true)
 | .bar is e p, listed => scriptB md ops bs is listed fun l => (Region.ready md ops l == [e] && bs.1.contains e) && planB md ops bs p (l.setIfInBounds e true)
 | .two is e1 p1 e2 p2, listed => scriptB md ops bs is listed fun l => ((Region.ready md ops l == [e1, e2] && ((!bs.1.contains e1 && bs.2.contains e1) && (!bs.1.contains e2 && bs.2.contains e2))) && planB md ops bs p1 (l.setIfInBounds e1 true)) && planB md ops bs p2 (l.setIfInBounds e2 true)
def barP : Plan → List Nat × List Nat
 | .done _ => ([], [])
 | .pre _ p => barP p
 | .one _ e p => ((barP p).1, e :: (barP p).2)
 | .bar _ e p => (e :: (barP p).1, (barP p).2)
 | .two _ e1 p1 e2 p2 => ((barP p1).1 ++ (barP p2).1, e1 :: e2 :: ((barP p1).2 ++ (barP p2).2))
theorem freeB_spec {bs : List Nat × List Nat} {listed : Array Bool} {i j : Nat} (h : freeB md ops bs listed i = true) (hun : listed.getD j true = false) : bs.1.contains j = false ∨ j ∈ depU md ops listed i := by
 cases hb : bs.1.contains j with
 | false => exact .inl rfl
 | true =>
  simp only [freeB, Bool.and_eq_true, List.all_eq_true] at h
  have := h.2.2 j (by simpa using hb)
  simp only [hun, Bool.false_or, List.contains_iff_mem] at this
  exact .inr this
theorem freeL_spec {bs : List Nat × List Nat} {listed : Array Bool} {i j : Nat} (h : freeL md ops bs listed i = true) (hun : listed.getD j true = false) : bs.2.contains j = false ∨ j ∈ depU md ops listed i := by
 cases hb : bs.2.contains j with
 | false => exact .inl rfl
 | true =>
  simp only [freeL, Bool.and_eq_true, List.all_eq_true] at h
  have := h.2 j (by simpa using hb)
  simp only [hun, Bool.false_or, List.contains_iff_mem] at this
  exact .inr this
def nthL : List Oper → Nat → Option Oper
 | [], _ => none
 | o :: _, 0 => some o
 | _ :: l, k + 1 => nthL l k
theorem nthL_eq : ∀ (l : List Oper) (k : Nat), nthL l k = l[k]?
 | [], _ => rfl
 | _ :: _, 0 => rfl
 | _ :: l, k + 1 => by simpa [nthL] using nthL_eq l k
def noOp : Oper := ⟨none, .assign (.const undef), 0, "", #[], none⟩
def nthD (l : List Oper) (k : Nat) : Oper := (nthL l k).getD noOp
def pickL (l : List Oper) : List Nat → List Oper
 | [] => []
 | i :: is => nthD l i :: pickL l is
def lenP : Plan → Nat
 | .done is => is.length
 | .pre is p => lenP p + is.length
 | .one is _ p => lenP p + 1 + is.length
 | .bar is _ p => lenP p + 1 + is.length
 | .two is _ p1 _ p2 => max (lenP p1) (lenP p2) + 1 + is.length
def topB (ops : Array Oper) (p : Plan) : Bool := Region.noSelect ops && Nat.ble (lenP p) ops.size && planB .any ops (barP p) p (Array.replicate ops.size false)
def wpD (P : Program) (ops : Array Oper) {γ : Type} (C : γ → World → Prop) (K : Act → Prop) : List Oper → Act → Prop
 | [], a => K a
 | o :: rest, a => ∃ v, (∀ g, YieldsIn P ops (C g) o v a) ∧ wpD P ops C K rest (a.put o.dst v)
theorem anyG_nil {bs : List Nat × List Nat} {Q : Act → (World → Prop) → Prop} {listed : Array Bool} {a : Act} {C : World → Prop} (hr : Region.ready md ops listed = []) (h : Q a C) : ∀ fuel, anyG P md ops bs Q fuel Good listed a C
 | 0 => ⟨hr, h⟩
 | _ + 1 => ⟨fun _ => h, fun i hi => by rw [hr] at hi; cases hi⟩
theorem script_sound {bs : List Nat × List Nat} {γ : Type} {D : γ → World → Prop} {g0 : γ} {Q : Act → (World → Prop) → Prop} {K : Act → Prop} {l0 : List Oper} (hs : Region.noSelect l0.toArray = true) (k : Array Bool → Bool) (fuel : Nat)
  (hk : ∀ a, K a → ∀ listed, k listed = true → anyG P md l0.toArray bs Q fuel (fun C => ∃ g, C = D g) listed a (D g0)) : ∀ (is : List Nat) (listed : Array Bool) (a : Act),
  scriptB md l0.toArray bs is listed k = true → wpD P l0.toArray D K (pickL l0 is) a → anyG P md l0.toArray bs Q (fuel + is.length) (fun C => ∃ g, C = D g) listed a (D g0)
 | [], listed, a, hB, h => hk a h listed hB
 | i :: is, listed, a, hB, h => by
  simp only [scriptB, Bool.and_eq_true] at hB
  obtain ⟨⟨hr, hf, hfb⟩, hB'⟩ := hB
  obtain ⟨v, hy, hK⟩ := h
  have hr' : i ∈ Region.ready md l0.toArray listed := by simpa using hr
  obtain ⟨_, o, ho, _⟩ := mem_ready.1 hr'
  have e : nthD l0 i = o := by
   unfold nthD
   rw [nthL_eq]
   simp at ho
   simp [ho]
  rw [e] at hy hK
  have hib : bs.1.contains i = false := by simp only [freeB, Bool.and_eq_true] at hfb; simpa using hfb.1
  have hok : okU md l0.toArray listed i (depU md l0.toArray listed i) = true := by simp only [freeB, Bool.and_eq_true] at hfb; exact hfb.2.1
  exact anyG_first (G2 := fun C => ∃ g, C = D g) ho (Region.noSelect_spec hs) hib _ (fuel + is.length) listed a (D g0) ⟨g0, rfl⟩ ⟨g0, rfl⟩ (okU_spec hok) (fun j oj hj hne hun hno => ⟨Region.free_spec ho hf j oj hj hne hun hno, freeB_spec hfb hun, .inr (.inr fun _ h => h)⟩) hr' (fun C ⟨g, hC⟩ => hC ▸ hy g)
   (script_sound hs k fuel hk is _ _ hB' hK)
theorem script_loc {bs : List Nat × List Nat} {D : World → Prop} {Good : (World → Prop) → Prop} {Q : Act → (World → Prop) → Prop} {K : Act → Prop} {l0 : List Oper} (hs : Region.noSelect l0.toArray = true) (k : Array Bool → Bool) (fuel : Nat) (hG : Good D)
  (hk : ∀ a, K a → ∀ listed, k listed = true → anyG P md l0.toArray bs Q fuel Good listed a D) : ∀ (is : List Nat) (listed : Array Bool) (a : Act),
  scriptL md l0.toArray bs is listed k = true → wpD P l0.toArray (fun _ : List HProp => D) K (pickL l0 is) a → anyG P md l0.toArray bs Q (fuel + is.length) Good listed a D
 | [], listed, a, hB, h => hk a h listed hB
 | i :: is, listed, a, hB, h => by
  simp only [scriptL, Bool.and_eq_true] at hB
  obtain ⟨⟨hr, hf, hfl⟩, hB'⟩ := hB
  have hfb : freeB md l0.toArray bs listed i = true := by simp only [freeL, Bool.and_eq_true] at hfl; exact hfl.1
  obtain ⟨v, hy, hK⟩ := h
  have hr' : i ∈ Region.ready md l0.toArray listed := by simpa using hr
  obtain ⟨_, o, ho, _⟩ := mem_ready.1 hr'
  have e : nthD l0 i = o := by
   unfold nthD
   rw [nthL_eq]
   simp at ho
   simp [ho]
  rw [e] at hy hK
  have hib : bs.1.contains i = false := by simp only [freeB, Bool.and_eq_true] at hfb; simpa using hfb.1
  have hok : okU md l0.toArray listed i (depU md l0.toArray listed i) = true := by simp only [freeB, Bool.and_eq_true] at hfb; exact hfb.2.1
  exact anyG_first (G2 := fun C => C = D) ho (Region.noSelect_spec hs) hib _ (fuel + is.length) listed a D hG rfl (okU_spec hok) (fun j oj hj hne hun hno => ⟨Region.free_spec ho hf j oj hj hne hun hno, freeB_spec hfb hun, (freeL_spec hfl hun).imp id .inl⟩) hr' (fun C hC => hC ▸ hy [])
   (script_loc hs k fuel hG hk is _ _ hB' hK)
end
section
variable {P : Program} {w0 : World} {n : Nat} {l0 : List Oper} {bs : List Nat × List Nat} {Q : Exit → Act → World → Prop} {ρ : Env} {A : List HProp} {Good : (World → Prop) → Prop}
structure WPl (P : Program) (w0 : World) (n : Nat) (l0 : List Oper) (bs : List Nat × List Nat) (Q : Exit → Act → World → Prop) (Good : (World → Prop) → Prop) (p : Plan) (ρ : Env) (A : List HProp) : Prop where
 run : Region.noSelect l0.toArray = true → Good (Own w0 A) ∧ ∀ listed fuel, planB .any l0.toArray bs p listed = true → lenP p ≤ fuel → anyG P .any l0.toArray bs (fun a C => ∀ w, C w → Q .normal a w) fuel Good listed (act n ρ) (Own w0 A)
structure WD (P : Program) (w0 : World) (n : Nat) (ops : Array Oper) (F : List HProp → List HProp) (K : Env → Prop) (l : List Oper) (ρ : Env) : Prop where
 run : wpD P ops (fun g => Own w0 (F g)) (fun a => ∃ ρ', a = act n ρ' ∧ K ρ') l (act n ρ)
def GoodF (w0 : World) (F : List HProp → List HProp) (C : World → Prop) : Prop := ∃ g, C = Own w0 (F g)
def BrT (P : Program) (w0 : World) (n : Nat) (l0 : List Oper) (bs : List Nat × List Nat) (Q : Exit → Act → World → Prop) (p : Plan) (e : Exit) (a : Act) (w : World) : Prop :=
 e = .normal ∧ ∃ ρ' A' G, a = act n ρ' ∧ Own w0 A' w ∧ WPl P w0 n l0 bs Q G p ρ' A'
def Br (P : Program) (w0 : World) (n : Nat) (l0 : List Oper) (bs : List Nat × List Nat) (Q : Exit → Act → World → Prop) (F : List HProp → List HProp) (p : Plan) (e : Exit) (a : Act) (w : World) : Prop :=
 e = .normal ∧ ∃ ρ' A', a = act n ρ' ∧ Own w0 A' w ∧ WPl P w0 n l0 bs Q (GoodF w0 F) p ρ' A'
theorem own_perm {l l' : List HProp} (h : l.Perm l') : Own w0 l = Own w0 l' := by
 funext w
 exact propext ⟨fun H => H.perm h, fun H => H.perm h.symm⟩
def wantN (n : Nat) (ρ : Env) (l0 : List Oper) (e : Nat) : Bool := match (nthD l0 e).guard with
 | none => true
 | some (g, b) => yieldN n ρ l0.toArray g == some b
theorem wantN_spec {e : Nat} (h : wantN n ρ l0 e = true) : Region.wanted (nthD l0 e) (yielded l0.toArray (act n ρ).tmps) = true := by
 unfold wantN at h
 unfold Region.wanted
 cases hg : (nthD l0 e).guard with
 | none => rfl
 | some gb => simp only [hg] at h ⊢; simp only [act, yielded_arr]; exact h
theorem opG_any {ρ' : Env} {B : List HProp} {e : Nat} {listed : Array Bool} {G : (World → Prop) → Prop} {K : Act → (World → Prop) → Prop} {Qe : Exit → Act → World → Prop} (hL : WL P w0 n l0.toArray Qe [nthD l0 e] ρ' B) (hwn : wantN n ρ' l0 e = true)
  (hn : ∀ e a w, Qe e a w → e = .normal) (fin : ∀ (a' : Act) (w' : World), Qe .normal a' w' → ∃ C', G C' ∧ C' w' ∧ K a' C') (hr : e ∈ Region.ready .any l0.toArray listed) :
  opG P l0.toArray G e K (act n ρ') (Own w0 B) := by
 obtain ⟨_, o, ho, _⟩ := mem_ready.1 hr
 have e1 : nthD l0 e = o := by
  unfold nthD
  rw [nthL_eq]
  simp at ho
  simp [ho]
 have hw := wantN_spec hwn
 rw [e1] at hL hw
 have nol : ¬ LetsOut Qe := by rintro ⟨a, w, h⟩; cases hn _ _ _ h
 unfold opG
 simp only [ho]
 simp only [hw, if_true]
 intro w hO
 have h := hL.run w hO
 unfold wpList at h
 rw [if_pos hw] at h
 rcases h with h | h
 ·unfold Oper.wp at *
  generalize (execOp (act n ρ').eval o).run P w = r at *
  cases r with
  | ok nx w' =>
   cases nx <;> simp only [Oper.upon] at h ⊢
   case value u => exact fin _ _ h
   case skip => exact fin _ _ h
   case defer d => exact fin _ _ h
   case enter f args =>
    refine Calls.mono h fun e w'' he => ?_
    cases e with
    | returned u => exact fin _ _ he
    | panicked c => cases hn _ _ _ he
    | outgrown => exact (nol he).elim
   case row row args => exact Rows.mono h fun u w'' he => fin _ _ he
  | halt x w' =>
   cases x <;> simp only [Oper.upon] at h
   case panic u => cases hn _ _ _ h
 ·exact (nol h.2).elim
theorem opG_br {ρ' : Env} {F : List HProp → List HProp} {g0 : List HProp} {p : Plan} {e : Nat} {fuel : Nat} {listed : Array Bool} (hs : Region.noSelect l0.toArray = true) (hL : WL P w0 n l0.toArray (Br P w0 n l0 bs Q F p) [nthD l0 e] ρ' (F g0)) (hwn : wantN n ρ' l0 e = true)
  (hr : e ∈ Region.ready .any l0.toArray listed) (hp : planB .any l0.toArray bs p (listed.setIfInBounds e true) = true) (hf : lenP p ≤ fuel) (hes : bs.2.contains e = true) :
  opG P l0.toArray (fun C' => GoodF w0 F C' ∧ (bs.2.contains e = false → C' = Own w0 (F g0))) e (anyG P .any l0.toArray bs (fun a C => ∀ w, C w → Q .normal a w) fuel (GoodF w0 F) (listed.setIfInBounds e true)) (act n ρ') (Own w0 (F g0)) := by
 refine opG_any hL hwn (fun _ _ _ h => h.1) ?_ hr
 rintro a' w' ⟨_, ρ1, A1, rfl, hO, hW⟩
 obtain ⟨h1, h3⟩ := hW.run hs
 exact ⟨_, ⟨h1, fun h => (by rw [hes] at h; cases h)⟩, hO, h3 _ _ hp hf⟩
theorem opG_brT {ρ' : Env} {B : List HProp} {p : Plan} {e : Nat} {fuel : Nat} {listed : Array Bool} (hs : Region.noSelect l0.toArray = true) (hL : WL P w0 n l0.toArray (BrT P w0 n l0 bs Q p) [nthD l0 e] ρ' B) (hwn : wantN n ρ' l0 e = true)
  (hr : e ∈ Region.ready .any l0.toArray listed) (hp : planB .any l0.toArray bs p (listed.setIfInBounds e true) = true) (hf : lenP p ≤ fuel) :
  opG P l0.toArray (fun _ => True) e (fun a C => ∃ G, G C ∧ anyG P .any l0.toArray bs (fun a C => ∀ w, C w → Q .normal a w) fuel G (listed.setIfInBounds e true) a C) (act n ρ') (Own w0 B) := by
 refine opG_any hL hwn (fun _ _ _ h => h.1) ?_ hr
 rintro a' w' ⟨_, ρ1, A1, G, rfl, hO, hW⟩
 obtain ⟨h1, h3⟩ := hW.run hs
 exact ⟨_, trivial, hO, G, h1, h3 _ _ hp hf⟩
theorem wpD_imp {ops : Array Oper} {γ : Type} {C : γ → World → Prop} {K K' : Act → Prop} (hK : ∀ a, K a → K' a) : ∀ (l : List Oper) (a : Act), wpD P ops C K l a → wpD P ops C K' l a
 | [], _, h => hK _ h
 | _ :: l, _, ⟨v, h1, h2⟩ => ⟨v, h1, wpD_imp hK l _ h2⟩
theorem WD.imp {ops : Array Oper} {F : List HProp → List HProp} {K K' : Env → Prop} {l : List Oper} (h : WD P w0 n ops F K l ρ) (hK : ∀ ρ, K ρ → K' ρ) : WD P w0 n ops F K' l ρ :=
 ⟨wpD_imp (fun _ ⟨ρ', h1, h2⟩ => ⟨ρ', h1, hK _ h2⟩) _ _ h.run⟩
theorem WPl.done {is : List Nat} (F : List HProp → List HProp) (g0 : List HProp) (hF : ∀ g, Good (Own w0 (F g))) (hA : Own w0 A = Own w0 (F g0))
  (h : WD P w0 n l0.toArray F (fun ρ' => WX w0 n Q .normal ρ' A) (pickL l0 is) ρ) : WPl P w0 n l0 bs Q Good (.done is) ρ A := by
 have h : WD P w0 n l0.toArray F (fun ρ' => WX w0 n Q .normal ρ' (F g0)) (pickL l0 is) ρ := h.imp fun ρ' h => ⟨fun w hw => h.run w (hA ▸ hw)⟩
 refine ⟨fun hs => ⟨hA ▸ hF g0, fun listed fuel hB hl => ?_⟩⟩
 rw [hA]
 obtain ⟨m, rfl⟩ : ∃ m, fuel = m + is.length := ⟨fuel - is.length, by simp only [lenP] at hl; omega⟩
 have := script_sound (D := fun g => Own w0 (F g)) (g0 := g0) (Q := fun a C => ∀ w, C w → Q .normal a w) hs (fun l => (Region.ready .any l0.toArray l).isEmpty) m (K := fun a => ∃ ρ', a = act n ρ' ∧ WX w0 n Q .normal ρ' (F g0))
  (by rintro a ⟨ρ', rfl, hK⟩ l hl; exact anyG_nil (by simpa using hl) hK.run m) is listed _ hB h.run
 exact Sl.anyG_mono (by rintro C ⟨g, rfl⟩; exact hF g) _ _ _ _ ⟨g0, rfl⟩ this
theorem WPl.one {is : List Nat} {e : Nat} {p : Plan} (F : List HProp → List HProp) (g0 : List HProp) (hF : ∀ g, Good (Own w0 (F g))) (hA : Own w0 A = Own w0 (F g0))
  (h : WD P w0 n l0.toArray F (fun ρ' => wantN n ρ' l0 e = true ∧ WL P w0 n l0.toArray (Br P w0 n l0 bs Q F p) [nthD l0 e] ρ' A) (pickL l0 is) ρ) : WPl P w0 n l0 bs Q Good (.one is e p) ρ A := by
 have h : WD P w0 n l0.toArray F (fun ρ' => wantN n ρ' l0 e = true ∧ WL P w0 n l0.toArray (Br P w0 n l0 bs Q F p) [nthD l0 e] ρ' (F g0)) (pickL l0 is) ρ := h.imp fun ρ' h => ⟨h.1, ⟨fun w hw => h.2.run w (hA ▸ hw)⟩⟩
 refine ⟨fun hs => ⟨hA ▸ hF g0, fun listed fuel hB hl => ?_⟩⟩
 rw [hA]
 obtain ⟨m, rfl⟩ : ∃ m, fuel = (m + 1) + is.length := ⟨fuel - is.length - 1, by simp only [lenP] at hl; omega⟩
 have := script_sound (D := fun g => Own w0 (F g)) (g0 := g0) (Q := fun a C => ∀ w, C w → Q .normal a w) hs (fun l => (Region.ready .any l0.toArray l == [e] && (!bs.1.contains e && bs.2.contains e)) && planB .any l0.toArray bs p (l.setIfInBounds e true)) (m + 1)
  (K := fun a => ∃ ρ', a = act n ρ' ∧ (wantN n ρ' l0 e = true ∧ WL P w0 n l0.toArray (Br P w0 n l0 bs Q F p) [nthD l0 e] ρ' (F g0)))
  (by
   rintro a ⟨ρ', rfl, hwn, hL⟩ l hl2
   simp only [Bool.and_eq_true, beq_iff_eq, Bool.not_eq_true'] at hl2
   refine ⟨fun h0 => (by rw [hl2.1.1] at h0; cases h0), fun i hi => ?_⟩
   have hi' := hi
   rw [hl2.1.1] at hi'
   simp only [List.mem_singleton] at hi'
   subst hi'
   exact ⟨fun _ => opG_br hs hL hwn hi hl2.2 (by simp only [lenP] at hl; omega) hl2.1.2.2, fun h => by rw [hl2.1.2.1] at h; cases h⟩) is listed _ hB h.run
 exact Sl.anyG_mono (by rintro C ⟨g, rfl⟩; exact hF g) _ _ _ _ ⟨g0, rfl⟩ this
theorem WPl.fin {is : List Nat} (hG : Good (Own w0 A)) (h : WD P w0 n l0.toArray (fun _ => A) (fun ρ' => WX w0 n Q .normal ρ' A) (pickL l0 is) ρ) : WPl P w0 n l0 bs Q Good (.done is) ρ A :=
 WPl.done (fun _ => A) [] (fun _ => hG) rfl h
theorem WPl.bar {is : List Nat} {e : Nat} {p : Plan} (hG : Good (Own w0 A))
  (h : WD P w0 n l0.toArray (fun _ => A) (fun ρ' => wantN n ρ' l0 e = true ∧ WL P w0 n l0.toArray (BrT P w0 n l0 bs Q p) [nthD l0 e] ρ' A) (pickL l0 is) ρ) : WPl P w0 n l0 bs Q Good (.bar is e p) ρ A := by
 refine ⟨fun hs => ⟨hG, fun listed fuel hB hl => ?_⟩⟩
 obtain ⟨m, rfl⟩ : ∃ m, fuel = (m + 1) + is.length := ⟨fuel - is.length - 1, by simp only [lenP] at hl; omega⟩
 have := script_sound (D := fun _ => Own w0 A) (g0 := ([] : List HProp)) (Q := fun a C => ∀ w, C w → Q .normal a w) hs (fun l => (Region.ready .any l0.toArray l == [e] && bs.1.contains e) && planB .any l0.toArray bs p (l.setIfInBounds e true)) (m + 1)
  (K := fun a => ∃ ρ', a = act n ρ' ∧ (wantN n ρ' l0 e = true ∧ WL P w0 n l0.toArray (BrT P w0 n l0 bs Q p) [nthD l0 e] ρ' A))
  (by
   rintro a ⟨ρ', rfl, hwn, hL⟩ l hl2
   simp only [Bool.and_eq_true, beq_iff_eq] at hl2
   refine ⟨fun h0 => (by rw [hl2.1.1] at h0; cases h0), fun i hi => ?_⟩
   have hi' := hi
   rw [hl2.1.1] at hi'
   simp only [List.mem_singleton] at hi'
   subst hi'
   exact ⟨fun h => (by rw [hl2.1.2] at h; cases h), fun _ => opG_brT hs hL hwn hi hl2.2 (by simp only [lenP] at hl; omega)⟩) is listed _ hB h.run
 exact Sl.anyG_mono (by rintro C ⟨g, rfl⟩; exact hG) _ _ _ _ ⟨[], rfl⟩ this
theorem WPl.pre {is : List Nat} {p : Plan} (hG : Good (Own w0 A)) (h : WD P w0 n l0.toArray (fun _ => A) (fun ρ' => WPl P w0 n l0 bs Q Good p ρ' A) (pickL l0 is) ρ) : WPl P w0 n l0 bs Q Good (.pre is p) ρ A := by
 refine ⟨fun hs => ⟨hG, fun listed fuel hB hl => ?_⟩⟩
 obtain ⟨m, rfl⟩ : ∃ m, fuel = m + is.length := ⟨fuel - is.length, by simp only [lenP] at hl; omega⟩
 exact script_loc (D := Own w0 A) (Q := fun a C => ∀ w, C w → Q .normal a w) hs (fun l => planB .any l0.toArray bs p l) m hG (K := fun a => ∃ ρ', a = act n ρ' ∧ WPl P w0 n l0 bs Q Good p ρ' A)
  (by rintro a ⟨ρ', rfl, hK⟩ l hl2; exact (hK.run hs).2 _ _ hl2 (by simp only [lenP] at hl; omega)) is listed _ hB h.run
theorem WC.plan {i : Nat} (p : Plan) (hm : P.follows .mixedOrders = true) (hB : topB l0.toArray p = true) (h : WPl P w0 n l0 (barP p) Q (fun _ => True) p ρ A) : WC P w0 n (.region i l0.toArray true) Q ρ A := by
 refine ⟨fun w hw => ?_⟩
 simp only [topB, Bool.and_eq_true] at hB
 obtain ⟨_, h3⟩ := h.run hB.1.1
 exact wp_region_any hm (wpAny_of_G _ _ _ _ _ _ hw.drew (h3 _ _ hB.2 (by have := hB.1.2; simpa using this)))
theorem WX.br {F : List HProp → List HProp} {p : Plan} (h : WPl P w0 n l0 bs Q (GoodF w0 F) p ρ A) : WX w0 n (Br P w0 n l0 bs Q F p) .normal ρ A := ⟨fun w hw => ⟨rfl, ρ, A, rfl, hw, h⟩⟩
instance (priority := low) Reads.app {G A : List HProp} {base : Option Addr} {vs : List Value} [h : Reads w0 A base vs] : Reads w0 (G ++ A) base vs := ⟨by
 induction G with
 | nil => exact h.rd
 | cons X G ih => exact ih.cons⟩
instance (priority := low) CelAt.app {G A : List HProp} {b : Nat} {vs : List Value} {e : TypeId} [h : CelAt A b vs e] : CelAt (G ++ A) b vs e := ⟨List.mem_append_right _ h.mem⟩
theorem WX.brT {p : Plan} (h : WPl P w0 n l0 bs Q (fun _ => True) p ρ A) : WX w0 n (BrT P w0 n l0 bs Q p) .normal ρ A := ⟨fun w hw => ⟨rfl, ρ, A, _, rfl, hw, h⟩⟩
theorem good_same (F : List HProp → List HProp) (g : List HProp) : GoodF w0 F (Own w0 (F g)) := ⟨g, rfl⟩
theorem good_perm {F : List HProp → List HProp} {l : List HProp} (g : List HProp) (h : l.Perm (F g)) : GoodF w0 F (Own w0 l) := ⟨g, own_perm h⟩
section
variable {ops : Array Oper} {F : List HProp → List HProp} {K : Env → Prop} {rest : List Oper} {d : Nat} {op : Op} {T : TypeId} {pos : String} {af : Array Edge} {v : Value} {gg : Nat} {b : Bool}
theorem WD.nil (h : K ρ) : WD P w0 n ops F K [] ρ := ⟨⟨ρ, rfl, h⟩⟩
theorem WD.eff {n : Nat} {l0 : List Oper} {e : Nat} {Qb : Exit → Act → World → Prop} {A : List HProp} (hw : wantN n ρ l0 e = true) (h : WL P w0 n l0.toArray Qb [nthD l0 e] ρ A) :
  WD P w0 n ops F (fun ρ' => wantN n ρ' l0 e = true ∧ WL P w0 n l0.toArray Qb [nthD l0 e] ρ' A) [] ρ := WD.nil ⟨hw, h⟩
theorem quietAt_val {o : Oper} {A : List HProp} (hv : Val P w0 n ρ A o v) : ∀ w, Own w0 A w → o.quietAt P (act n ρ) (Own w0 A) w v := fun w hw => by
 unfold Oper.quietAt; rw [eval_act, hv w hw]; exact ⟨rfl, rfl⟩
theorem dv (hv : ∀ g, Val P w0 n ρ (F g) ⟨some d, op, T, pos, af, none⟩ v) (h : WD P w0 n ops F K rest (set ρ d v)) : WD P w0 n ops F K (⟨some d, op, T, pos, af, none⟩ :: rest) ρ :=
 ⟨⟨v, fun g => .inl ⟨by simp [Region.wanted], quietAt_val (hv g)⟩, by rw [put_act]; exact h.run⟩⟩
theorem dcl {k : Nat} {f : FuncId} {aops : List Operand} {args : List Value} {tys : Array TypeId} (hs : ∀ g, Quiet P w0 f args (F g) v) (hc : callT P f = true) (ha : evs n ρ aops = args)
  (h : WD P w0 n ops F K rest (set ρ k v)) : WD P w0 n ops F K (⟨some k, .call ⟨.value (.func f), aops.toArray, tys⟩, T, pos, af, none⟩ :: rest) ρ :=
 ⟨⟨v, fun g => .inl ⟨by simp [Region.wanted], fun w hw => by unfold Oper.quietAt; rw [eval_act, run_call hc ha]; exact ⟨rfl, (hs g).run w hw⟩⟩, by rw [put_act]; exact h.run⟩⟩
end
end
def ixB (l : List Nat) : Bool := (l.isPerm (List.range l.length))
theorem ix_perm (l : List HProp) (is : List Nat) (h : ixB is = true) (hn : (l.take is.length).length = is.length) : l.Perm (is.map (fun i => l.getD i emp) ++ l.drop is.length) := by
 have h1 : (is.map (fun i => l.getD i emp)).Perm ((List.range is.length).map fun i => l.getD i emp) := (List.isPerm_iff.1 h).map _
 have h2 : (List.range is.length).map (fun i => l.getD i emp) = l.take is.length := by
  apply List.ext_getElem?
  intro j
  rw [List.getElem?_map]
  by_cases hj : j < is.length
  ·have hjl : j < l.length := by rw [List.length_take] at hn; omega
   rw [List.getElem?_range hj, List.getElem?_take, if_pos hj]
   simp [List.getD, hjl]
  ·rw [List.getElem?_eq_none (by simpa using hj), List.getElem?_eq_none (by rw [hn]; omega)]; rfl
 rw [h2] at h1
 have h3 := h1.symm.append_right (l.drop is.length)
 rwa [List.take_append_drop] at h3
theorem Own.ix {w0 w : World} {l : List HProp} (H : Own w0 l w) (is : List Nat) (h : ixB is = true := by decide) (hn : (l.take is.length).length = is.length := by rfl) : Own w0 (is.map (fun i => l.getD i emp) ++ l.drop is.length) w := H.perm (ix_perm l is h hn)
theorem prefix_set {vs cur : List Value} {o j : Nat} {v : Value} (hp : vs <+: cur.drop o) (hj : j < vs.length) : vs.set j v <+: (cur.set (o + j) v).drop o ∧ o + j < cur.length := by
 obtain ⟨t, ht⟩ := hp
 have hl : vs.length + t.length = cur.length - o := by have := congrArg List.length ht; simpa using this
 refine ⟨⟨t, ?_⟩, by omega⟩
 rw [List.drop_set, if_neg (by omega), ← ht, Nat.add_sub_cancel_left, List.set_append_left _ _ hj]
section
variable {P : Program} {w0 : World} {n : Nat} {ops : Array Oper} {Q : Exit → Act → World → Prop} {ρ : Env} {A R : List HProp} {rest : List Oper} {T : TypeId} {pos : String} {af : Array Edge} {x y : Operand} {t e : TypeId} {vs : List Value} {v : Value} {base : Option Addr} {j c s : Nat}
theorem str (ht : plainT P t = true) (hs : sizeT P t 1 = true) (hx : ev n ρ x = .pointer (base.map (·.add j))) (hv : ev n ρ y = v) (h1 : v.oneCell' = true) (hj : j < vs.length)
  (h : WL P w0 n ops Q rest ρ (row base c s e (vs.set j v) :: R)) : WL P w0 n ops Q (⟨none, .store t x y, T, pos, af, none⟩ :: rest) ρ (row base c s e vs :: R) := ⟨fun w hw => by
 rcases hw.row with ⟨_, rfl, _⟩ | ⟨g, o, cur, rfl, hp, hl, hc, hO⟩
 ·simp at hj
 ·have hps := prefix_set (v := v) hp hj
  exact (st (vs := cur) (off := o + j) ht hs (by rw [hx]; simp only [Option.map_some, add_at]) hv h1 (by rw [Nat.blt_eq]; exact hps.2) (pm (fun w hw => hw.intro_rowo hps.1 (by simpa using hl) hc) h)).run w hO⟩
theorem vixa {k : IntKind} {i : Int} {N sz : Nat} {ad : Addr} {d : Option Tmp} {g : Option (Nat × Bool)} (ht : P.underlying t = some (.array N e)) (hs : sizeT P e sz = true) (hx : ev n ρ x = .pointer (some ad)) (hy : ev n ρ y = .int k i) (h0 : 0 ≤ i) (h1 : i < N) :
  Val P w0 n ρ A ⟨d, .indexAddr t x y, T, pos, af, g⟩ (.pointer (some (ad.add (i.toNat * sz)))) := fun w _ => by
 simp [execOp, hx, hy, Instr.indexAt, Instr.sureAddr, asIntOf, run_underlying ht, h0, h1, run_sizeOf_of hs]
end
theorem vldo {P : Program} {w0 : World} {n : Nat} {ρ : Env} {A : List HProp} {dd : Option Tmp} {t T : TypeId} {x : Operand} {pos : String} {af : Array Edge} {g : Option (Nat × Bool)} {base : Option Addr} {vs : List Value} {v : Value} {j : Nat} (ht : plainT P t = true) (hx : ev n ρ x = .pointer (base.map (·.add j))) (hR : RdC w0 A base vs) (hj : vs[j]? = some v) :
  Val P w0 n ρ A ⟨dd, .load t x, T, pos, af, g⟩ v := by
 have : Reads w0 A base vs := ⟨hR⟩
 exact vldr ht hx hj
end Go.Sl
end
section
set_option linter.unusedVariables false
set_option linter.unusedSimpArgs false
namespace Go.Sl
open Go.RowKit
open Go.ChangeMaps (setBlock)
open Go.MapKept
def mp (d : TypeDesc) (m : Nat) (ps : List (Value × Value)) : HProp := fun h => ∃ es clk, (es.toList.map (fun e => (e.key, e.val)) = ps ∧ Stamped es clk ∧ ∀ x ∈ es.toList, IsKey d x.key) ∧ pt m (.map es clk) h
section
variable {w0 w : World} {A R : List HProp} {d : TypeDesc} {m : Nat} {ps : List (Value × Value)}
theorem Own.mp (H : Own w0 (Sl.mp d m ps :: R) w) : ∃ es clk, (es.toList.map (fun e => (e.key, e.val)) = ps ∧ Stamped es clk ∧ ∀ x ∈ es.toList, IsKey d x.key) ∧ Own w0 (pt m (.map es clk) :: R) w := by
 obtain ⟨hb, h, ⟨h1, h2, ⟨es, clk, c, a⟩, a2, dd, x⟩, hw⟩ := H
 exact ⟨es, clk, c, hb, h, ⟨h1, h2, a, a2, dd, x⟩, hw⟩
theorem Own.intro_mp {es : Array MapEntry} {clk : Nat} (hc : es.toList.map (fun e => (e.key, e.val)) = ps ∧ Stamped es clk ∧ ∀ x ∈ es.toList, IsKey d x.key) (H : Own w0 (pt m (.map es clk) :: R) w) : Own w0 (Sl.mp d m ps :: R) w :=
 H.head fun _ h => ⟨es, clk, hc, h⟩
def MpC (w0 : World) (A : List HProp) (d : TypeDesc) (m : Nat) (ps : List (Value × Value)) : Prop := ∀ w, Own w0 A w → ∃ es clk, (es.toList.map (fun e => (e.key, e.val)) = ps ∧ Stamped es clk ∧ ∀ x ∈ es.toList, IsKey d x.key) ∧ w.heap[m]? = some (.map es clk)
class MpAt (w0 : World) (A : List HProp) (m : Nat) (d : outParam TypeDesc) (ps : outParam (List (Value × Value))) : Prop where
 mp : MpC w0 A d m ps
instance (priority := low) MpAt.tail {X : HProp} [h : MpAt w0 A m d ps] : MpAt w0 (X :: A) m d ps := ⟨fun w hw => h.mp w hw.tail⟩
instance MpAt.head : MpAt w0 (Sl.mp d m ps :: A) m d ps := ⟨fun w hw => by
 obtain ⟨es, clk, hc, hO⟩ := hw.mp
 exact ⟨es, clk, hc, hO.heap.1⟩⟩
instance (priority := low) MpAt.app {G : List HProp} [h : MpAt w0 A m d ps] : MpAt w0 (G ++ A) m d ps := ⟨by
 induction G with
 | nil => exact h.mp
 | cons X G ih => exact fun w hw => ih w hw.tail⟩
theorem Turned.setBlock {o o' : Obj} (hb : w.heap[m]? = some o) : Turned w { w with heap := w.heap.setIfInBounds m o' } m o' := by
 have hlt : m < w.heap.size := (Array.getElem?_eq_some_iff.1 hb).1
 exact ⟨rfl, rfl, rfl, by simp, by simp [hlt], fun k hk => by simp [Ne.symm hk]⟩
end
section
variable {P : Program} {w0 : World} {n : Nat} {ops : Array Oper} {Q : Exit → Act → World → Prop} {ρ : Env} {A R : List HProp} {rest : List Oper} {T : TypeId} {pos : String} {af : Array Edge} {x y z : Operand} {t kt et : TypeId} {d : TypeDesc} {m b : Nat} {ps : List (Value × Value)} {k v : Value} {dd : Option Tmp} {g : Option (Nat × Bool)}
theorem mkm {dst : Nat} (d : TypeDesc) (h : ∀ m, WL P w0 n ops Q rest (set ρ dst (.map (some m))) (mp d m [] :: A)) : WL P w0 n ops Q (⟨some dst, .makeMap t none, T, pos, af, none⟩ :: rest) ρ A :=
 WL.step rfl fun w hw => ⟨.value (.map (some w.heap.size)), w.alloc (.map #[] 0), _, _, by
  simp [execOp, Instr.makeMap, Result.andThen], put_act .., Own.intro_mp (es := #[]) (clk := 0) ⟨rfl, stamped_empty 0, by simp⟩ (hw.alloc _), h _⟩
theorem vlk {j : Nat} (ht : P.underlying t = some (.map kt et)) (hd : P.underlying kt = some d) (hx : ev n ρ x = .map (some m)) (hy : ev n ρ y = k) (hk : IsKey d k) [hm : MpAt w0 A m d ps] (hj : ps[j]? = some (k, v)) : Val P w0 n ρ A ⟨dd, .lookup t x y false, T, pos, af, g⟩ v := fun w hw => by
 obtain ⟨es, clk, ⟨h1, h2, h3⟩, hb⟩ := hm.mp w hw
 rcases findNow_spec hk es.toList 0 h3 with ⟨_, f2⟩ | ⟨i, e, f1, f2, f3⟩
 ·rw [← h1, List.getElem?_map, Option.map_eq_some_iff] at hj
  obtain ⟨e, he, hke⟩ := hj
  exact absurd (congrArg Prod.fst hke) (f2 e (List.mem_of_getElem? he))
 ·have hv : e.val = v := by
   rw [← h1, List.getElem?_map, Option.map_eq_some_iff] at hj
   obtain ⟨e', he', hke⟩ := hj
   have hkk : e'.key = e.key := by rw [f3]; exact congrArg Prod.fst hke
   have hij : j = i := by
    have hn := h2.2.2
    have g1 : (es.toList.map (·.key))[j]? = some e'.key := by simp [he']
    have g2 : (es.toList.map (·.key))[i]? = some e'.key := by simp [f2, hkk]
    exact (List.getElem?_inj (by simpa using (List.getElem?_eq_some_iff.1 he').1) hn).1 (g1.trans g2.symm)
   subst hij
   rw [he'] at f2
   cases f2
   exact congrArg Prod.snd hke
  simp [execOp, hx, hy, Instr.lookup, run_underlying ht, MapKept.run_getObj_map hb, run_checkKey hd hk, run_findKey hd f1, Result.andThen, hv]
theorem vlkz {zv : Value} {s by_ : Nat} (ht : P.underlying t = some (.map kt et)) (hd : P.underlying kt = some d) (hz : zeroT P et zv s by_) (hx : ev n ρ x = .map (some m)) (hy : ev n ρ y = k) (hk : IsKey d k) [hm : MpAt w0 A m d ps] (hj : ∀ p ∈ ps, p.1 ≠ k) : Val P w0 n ρ A ⟨dd, .lookup t x y false, T, pos, af, g⟩ zv := fun w hw => by
 obtain ⟨es, clk, ⟨h1, h2, h3⟩, hb⟩ := hm.mp w hw
 obtain ⟨i, z1, z2, _, _⟩ := hz
 rcases findNow_spec hk es.toList 0 h3 with ⟨f1, f2⟩ | ⟨i, e, f1, f2, f3⟩
 ·simp [execOp, hx, hy, Instr.lookup, run_underlying ht, MapKept.run_getObj_map hb, run_checkKey hd hk, run_findKey hd f1, Result.andThen, zeroValue, typeInfo, z1, z2]
 ·exact absurd f3 (hj (e.key, e.val) (by rw [← h1]; exact List.mem_map.2 ⟨e, List.mem_of_getElem? f2, rfl⟩))
theorem mup {j : Nat} {u : Value} (ht : P.underlying t = some (.map kt et)) (hd : P.underlying kt = some d) (hx : ev n ρ x = .map (some m)) (hy : ev n ρ y = k) (hz : ev n ρ z = v) (hk : IsKey d k) (hj : ps[j]? = some (k, u))
  (h : WL P w0 n ops Q rest ρ (mp d m (ps.set j (k, v)) :: R)) : WL P w0 n ops Q (⟨none, .mapUpdate t x y z, T, pos, af, none⟩ :: rest) ρ (mp d m ps :: R) :=
 WL.step rfl fun w hw => by
  obtain ⟨es, clk, ⟨h1, h2, h3⟩, hO⟩ := hw.mp
  have hb := hO.heap.1
  rcases findNow_spec hk es.toList 0 h3 with ⟨_, f2⟩ | ⟨i, e, f1, f2, f3⟩
  ·rw [← h1, List.getElem?_map, Option.map_eq_some_iff] at hj
   obtain ⟨e, he, hke⟩ := hj
   exact absurd (congrArg Prod.fst hke) (f2 e (List.mem_of_getElem? he))
  ·have hij : j = i := by
    rw [← h1, List.getElem?_map, Option.map_eq_some_iff] at hj
    obtain ⟨e', he', hke⟩ := hj
    have hkk : e'.key = e.key := by rw [f3]; exact congrArg Prod.fst hke
    have hn := h2.2.2
    have g1 : (es.toList.map (·.key))[j]? = some e'.key := by simp [he']
    have g2 : (es.toList.map (·.key))[i]? = some e'.key := by simp [f2, hkk]
    exact (List.getElem?_inj (by simpa using (List.getElem?_eq_some_iff.1 he').1) hn).1 (g1.trans g2.symm)
   subst hij
   have hi : es[j]? = some e := by simpa using f2
   have hkey : ∀ e', es[j]? = some e' → ({ e' with key := k, val := v } : MapEntry).key = e'.key := fun e' he' => by rw [hi] at he'; cases he'; exact f3.symm
   refine ⟨.skip, _, _, _, by
    simp [execOp, hx, hy, hz, Instr.mapUpdate, run_underlying ht, MapKept.run_getObj_map hb, run_checkKey hd hk, run_findKey hd f1, hi, f3, run_keyThatStays hk, run_setObj_map _ hb, Result.andThen], rfl,
    Own.intro_mp (es := es.modify j fun e => { e with key := k, val := v }) (clk := clk) ⟨?_, stamped_modify h2 _ _ (fun _ _ => rfl) (fun e' _ he' => hkey e' he'), isKey_modify h3 _ _ hkey⟩ (hO.turned (Turned.setBlock hb)), h⟩
   rw [Array.toList_modify, ← h1]
   apply List.ext_getElem?
   intro q
   simp only [List.getElem?_map, List.getElem?_modify, List.getElem?_set]
   by_cases hq : j = q
   ·subst hq
    have hjl : j < es.size := by simpa using (List.getElem?_eq_some_iff.1 f2).1
    simp [f2, hjl]
   ·simp [hq]
theorem mun (ht : P.underlying t = some (.map kt et)) (hd : P.underlying kt = some d) (hx : ev n ρ x = .map (some m)) (hy : ev n ρ y = k) (hz : ev n ρ z = v) (hk : IsKey d k) (hj : ∀ p ∈ ps, p.1 ≠ k)
  (h : WL P w0 n ops Q rest ρ (mp d m (ps ++ [(k, v)]) :: R)) : WL P w0 n ops Q (⟨none, .mapUpdate t x y z, T, pos, af, none⟩ :: rest) ρ (mp d m ps :: R) :=
 WL.step rfl fun w hw => by
  obtain ⟨es, clk, ⟨h1, h2, h3⟩, hO⟩ := hw.mp
  have hb := hO.heap.1
  rcases findNow_spec hk es.toList 0 h3 with ⟨f1, f2⟩ | ⟨i, e, f1, f2, f3⟩
  ·refine ⟨.skip, _, _, _, by
    simp [execOp, hx, hy, hz, Instr.mapUpdate, run_underlying ht, MapKept.run_getObj_map hb, run_checkKey hd hk, run_findKey hd f1, run_setObj_map _ hb, Result.andThen], rfl,
    Own.intro_mp (es := es.push { key := k, val := v, born := clk }) (clk := clk + 1) ⟨by simp [h1], stamped_push h2 f2, fun x hx => ?_⟩ (hO.turned (Turned.setBlock hb)), h⟩
   simp only [Array.toList_push, List.mem_append, List.mem_singleton] at hx
   rcases hx with hx | rfl
   ·exact h3 x hx
   ·exact hk
  ·exact absurd f3 (hj (e.key, e.val) (by rw [← h1]; exact List.mem_map.2 ⟨e, List.mem_of_getElem? f2, rfl⟩))
end
inductive PutE (ps : List (Value × Value)) (k v : Value) : List (Value × Value) → Prop
 | old (j : Nat) (u : Value) (h : ps[j]? = some (k, u)) : PutE ps k v (ps.set j (k, v))
 | new (h : ∀ p ∈ ps, p.1 ≠ k) : PutE ps k v (ps ++ [(k, v)])
section
variable {P : Program} {w0 : World} {n : Nat} {ops : Array Oper} {Q : Exit → Act → World → Prop} {ρ : Env} {R : List HProp} {rest : List Oper} {T : TypeId} {pos : String} {af : Array Edge} {x y z : Operand} {t kt et : TypeId} {d : TypeDesc} {m : Nat} {ps ps' : List (Value × Value)} {k v : Value}
theorem mpu (ht : P.underlying t = some (.map kt et)) (hd : P.underlying kt = some d) (hx : ev n ρ x = .map (some m)) (hy : ev n ρ y = k) (hz : ev n ρ z = v) (hk : IsKey d k) (hj : PutE ps k v ps')
  (h : WL P w0 n ops Q rest ρ (mp d m ps' :: R)) : WL P w0 n ops Q (⟨none, .mapUpdate t x y z, T, pos, af, none⟩ :: rest) ρ (mp d m ps :: R) := by
 cases hj with
 | old j u hj => exact mup ht hd hx hy hz hk hj h
 | new hj => exact mun ht hd hx hy hz hk hj h
end
theorem same_of {α β : Type} {f : α → β} {l : List α} (hn : (l.map f).Nodup) {a b : α} (ha : a ∈ l) (hb : b ∈ l) (h : f a = f b) : a = b := by
 obtain ⟨i, hi⟩ := List.mem_iff_getElem?.1 ha
 obtain ⟨j, hj⟩ := List.mem_iff_getElem?.1 hb
 have g1 : (l.map f)[i]? = some (f a) := by simp [hi]
 have g2 : (l.map f)[j]? = some (f a) := by simp [hj, h]
 have := (List.getElem?_inj (by simpa using (List.getElem?_eq_some_iff.1 hi).1) hn).1 (g1.trans g2.symm)
 subst this
 rw [hi] at hj
 exact Option.some.inj hj
def mr (d : TypeDesc) (m : Nat) (ps : List (Value × Value)) (it : Nat) (vis : List Value) : HProp := fun h => ∃ es clk seen, (es.toList.map (fun e => (e.key, e.val)) = ps ∧ Stamped es clk ∧ ∀ x ∈ es.toList, IsKey d x.key) ∧
 ((∀ x ∈ es.toList, (seen.contains x.born = true ↔ x.key ∈ vis)) ∧ ∀ k vs, vis = k :: vs → ∃ (e : MapEntry) (seen' : Array Nat), e ∈ es.toList ∧ e.key = k ∧ seen = seen'.push e.born) ∧ star (pt m (.map es clk)) (pt it (.mapIter (some m) clk seen clk)) h
section
variable {w0 w : World} {A R : List HProp} {d : TypeDesc} {m it : Nat} {ps : List (Value × Value)} {vis : List Value}
theorem Own.mr (H : Own w0 (Sl.mr d m ps it vis :: R) w) : ∃ es clk seen, (es.toList.map (fun e => (e.key, e.val)) = ps ∧ Stamped es clk ∧ ∀ x ∈ es.toList, IsKey d x.key) ∧
  ((∀ x ∈ es.toList, (seen.contains x.born = true ↔ x.key ∈ vis)) ∧ ∀ k vs, vis = k :: vs → ∃ (e : MapEntry) (seen' : Array Nat), e ∈ es.toList ∧ e.key = k ∧ seen = seen'.push e.born) ∧ Own w0 (pt m (.map es clk) :: pt it (.mapIter (some m) clk seen clk) :: R) w := by
 obtain ⟨hb, h, ⟨h1, h2, ⟨es, clk, seen, c, c2, a⟩, a2, dd, x⟩, hw⟩ := H
 exact ⟨es, clk, seen, c, c2, Own.star ⟨hb, h, ⟨h1, h2, a, a2, dd, x⟩, hw⟩⟩
theorem Own.intro_mr {es : Array MapEntry} {clk : Nat} {seen : Array Nat} (hc : es.toList.map (fun e => (e.key, e.val)) = ps ∧ Stamped es clk ∧ ∀ x ∈ es.toList, IsKey d x.key)
  (hs : (∀ x ∈ es.toList, (seen.contains x.born = true ↔ x.key ∈ vis)) ∧ ∀ k vs, vis = k :: vs → ∃ (e : MapEntry) (seen' : Array Nat), e ∈ es.toList ∧ e.key = k ∧ seen = seen'.push e.born)
  (H : Own w0 (pt m (.map es clk) :: pt it (.mapIter (some m) clk seen clk) :: R) w) : Own w0 (Sl.mr d m ps it vis :: R) w := H.intro_star.head fun _ h => ⟨es, clk, seen, hc, hs, h⟩
theorem Own.mr_mp (H : Own w0 (Sl.mr d m ps it vis :: R) w) : Own w0 (Sl.mp d m ps :: R) w := by
 obtain ⟨es, clk, seen, hc, hs, hO⟩ := H.mr
 exact Own.intro_mp hc hO.pk1.tail
end
section
variable {P : Program} {w0 : World} {n : Nat} {ops : Array Oper} {Q : Exit → Act → World → Prop} {ρ : Env} {A R : List HProp} {rest : List Oper} {T : TypeId} {pos : String} {af : Array Edge} {x y z : Operand} {t kt et : TypeId} {d : TypeDesc} {m it dst : Nat} {ps : List (Value × Value)} {vis : List Value} {k v : Value} {dd : Option Tmp} {g : Option (Nat × Bool)}
theorem rgm (ht : P.underlying t = some (.map kt et)) (hx : ev n ρ x = .map (some m)) (h : ∀ it, WL P w0 n ops Q rest (set ρ dst (.pointer (some ⟨it, 0, none⟩))) (mr d m ps it [] :: R)) :
  WL P w0 n ops Q (⟨some dst, .range t x, T, pos, af, none⟩ :: rest) ρ (mp d m ps :: R) :=
 WL.step rfl fun w hw => by
  obtain ⟨es, clk, hc, hO⟩ := hw.mp
  have hb := hO.heap.1
  refine ⟨.value (.pointer (some ⟨w.heap.size, 0, none⟩)), w.alloc (.mapIter (some m) clk #[] clk), _, _, ?_, put_act .., Own.intro_mr (seen := #[]) hc ⟨by simp, fun k vs h => by cases h⟩ (hO.alloc _).pk1, h _⟩
  simp [execOp, hx, Instr.range, run_underlying ht, MapKept.run_getObj_map hb, Result.andThen]
theorem nxm (hx : ev n ρ x = .pointer (some ⟨it, 0, none⟩)) (hmore : ∀ k v, (k, v) ∈ ps → k ∉ vis → WL P w0 n ops Q rest (set ρ dst (.tuple #[.bool true, k, v])) (mr d m ps it (k :: vis) :: R))
  (hend : (∀ p ∈ ps, p.1 ∈ vis) → WL P w0 n ops Q rest (set ρ dst (.tuple #[.bool false])) (mr d m ps it vis :: R)) :
  WL P w0 n ops Q (⟨some dst, .next x false, T, pos, af, none⟩ :: rest) ρ (mr d m ps it vis :: R) :=
 WL.step rfl fun w hw => by
  obtain ⟨es, clk, seen, hc, hs, hO⟩ := hw.mr
  have hb := hO.heap.1
  have hr := hO.pk1.heap.1
  rcases run_next_at (P := P) w T it m clk clk seen es clk hr hb hc.2.1.1 (Nat.le_refl _) with ⟨h0, hrun⟩ | ⟨e, he, w1, hw1, hrun⟩
  ·refine ⟨.value (.tuple #[.bool false]), w, _, _, ?_, put_act .., hw, hend fun p hp => ?_⟩
   ·simp only [execOp, hx]
    simp [hrun, Result.andThen]
   ·rw [← hc.1] at hp
    obtain ⟨e, he, rfl⟩ := List.mem_map.1 hp
    have hno : leftOf es seen = #[] := Array.eq_empty_of_size_eq_zero h0
    have : e ∉ leftOf es seen := by rw [hno]; simp
    simp only [leftOf, Array.mem_filter, not_and, Bool.not_eq_true'] at this
    have h2 := this (by simpa using he)
    exact (hs.1 e he).1 (by simpa using h2)
  ·have hel : e ∈ es.toList ∧ seen.contains e.born = false := by
    simp only [leftOf, Array.toList_filter, List.mem_filter, Bool.not_eq_true'] at he
    exact he
   have hnv : e.key ∉ vis := fun h => by
    have h3 := (hs.1 e hel.1).2 h
    rw [hel.2] at h3
    cases h3
   have hw1' : Own w0 (pt it (.mapIter (some m) clk seen clk) :: pt m (.map es clk) :: R) w1 := by
    rcases hw1 with rfl | rfl
    ·exact hO.pk1
    ·exact hO.pk1.drew
   have hr1 := hw1'.heap.1
   refine ⟨.value (.tuple #[.bool true, e.key, e.val]), setBlock w1 it (.mapIter (some m) clk (seen.push e.born) clk), _, _, ?_, put_act .., Own.intro_mr hc ⟨fun y hy => ?_, fun k vs hk => ?_⟩ (hw1'.turned (Turned.setBlock hr1)).pk1, hmore e.key e.val (by rw [← hc.1]; exact List.mem_map.2 ⟨e, hel.1, rfl⟩) hnv⟩
   ·simp only [execOp, hx]
    simp [hrun, Result.andThen]
   ·have hbk : y.born = e.born ↔ y.key = e.key := by
     constructor
     ·intro h; rw [same_of hc.2.1.2.1 hy hel.1 h]
     ·intro h; rw [same_of hc.2.1.2.2 hy hel.1 h]
    simp only [Array.contains_push, Bool.or_eq_true, beq_iff_eq, List.mem_cons, hs.1 y hy, hbk]
    exact or_comm
   ·cases hk; exact ⟨e, seen, hel.1, rfl, rfl⟩
theorem ven (hx : ev n ρ x = .pointer (some ⟨it, 0, none⟩)) (hk : (k, v) ∈ ps) : Val P w0 n ρ (mr d m ps it (k :: vis) :: R) ⟨dd, .entry x, T, pos, af, g⟩ (.tuple #[k, v]) := fun w hw => by
 obtain ⟨es, clk, seen, hc, hs, hO⟩ := hw.mr
 have hb := hO.heap.1
 have hr := hO.pk1.heap.1
 obtain ⟨e, seen', he, hek, hse⟩ := hs.2 k vis rfl
 subst hse
 have hrun := run_entry_at (P := P) w it m clk seen' es clk e hr hb he hc.2.1.2.1
 have hv : e.val = v := by
  rw [← hc.1] at hk
  obtain ⟨e', he', hke⟩ := List.mem_map.1 hk
  have h1 : e'.key = e.key := by rw [hek]; exact congrArg Prod.fst hke
  have h2 := same_of hc.2.1.2.2 he' he h1
  subst h2
  exact congrArg Prod.snd hke
 simp only [execOp, hx]
 simp [hrun, Result.andThen, hek, hv]
end
end Go.Sl
end
section
set_option linter.unusedVariables false
set_option linter.unusedSimpArgs false
namespace Go.Sl
open Go.RowKit
section
variable {P : Program} {w0 : World} {n : Nat} {ops : Array Oper} {Q : Exit → Act → World → Prop} {ρ : Env} {A R : List HProp} {rest : List Oper} {T : TypeId} {pos : String} {af : Array Edge} {x y z : Operand} {t t2 e : TypeId} {base : Option Addr} {l c sz dst : Nat} {dd : Option Tmp} {g : Option (Nat × Bool)}
theorem vslLHM {u : Operand} {k k' k2 : IntKind} {lo hi mx : Int} (ht : P.underlying t = some (.slice e)) (hs : sizeT P e sz = true) (hx : ev n ρ x = .slice base l c) (hlo : ev n ρ u = .int k2 lo) (hhi : ev n ρ y = .int k hi) (hmx : ev n ρ z = .int k' mx) (h00 : 0 ≤ lo) (h0 : lo ≤ hi) (h1 : hi ≤ mx) (h2 : mx ≤ c) :
  Val P w0 n ρ A ⟨dd, .slice t x (some u) (some y) (some z), T, pos, af, g⟩ (.slice (slB base lo.toNat mx.toNat sz) (hi.toNat - lo.toNat) (mx.toNat - lo.toNat)) := fun w hw => by
 have h3 : 0 ≤ mx := by omega
 have h6 : 0 ≤ hi := by omega
 have h4 : hi ≤ (mx.toNat : Int) := by omega
 have h5 : ¬ max mx 0 < hi := by omega
 have h7 : lo ≤ (hi.toNat : Int) := by omega
 have h8 : ¬ max hi 0 < lo := by omega
 have h9 : hi ≤ max mx 0 := by omega
 have h10 : lo ≤ max hi 0 := by omega
 simp [execOp, hx, hlo, hhi, hmx, Instr.sliceAt, run_underlying ht, Instr.slice, Instr.sliceBounds, Instr.sliceBound, asIntOf, h0, h00, h1, h2, h3, h4, h5, h6, h7, h8, h9, h10, run_sizeOf_of hs, slB]
theorem vw {o : Oper} {v v' : Value} (h : Val P w0 n ρ A o v) (e : v = v') : Val P w0 n ρ A o v' := e ▸ h
theorem vcw {src dst : TypeId} {k k2 : IntKind} {a b : Int} (hs : (P.underlying src).isSome = true) (hd : P.underlying dst = some (.int k)) (hx : ev n ρ x = .int k2 a) (hw : k.wrap a = b) : Val P w0 n ρ A ⟨dd, .convert src dst x, T, pos, af, g⟩ (.int k b) := hw ▸ vcv hs hd hx
theorem rdb {w0 : World} {A : List HProp} {base : Option Addr} {bs : List UInt8} (h : RdC w0 A base (u8s bs)) (lo m k : Nat) (hm : m = lo → k = 0) : RdC w0 A (slB base lo m 1) (u8s ((bs.drop lo).take k)) := by
 have := h.slice lo m 1 k hm
 rwa [Nat.mul_one, u8s_drop, u8s_take] at this
theorem rdbL {w0 : World} {A : List HProp} {base : Option Addr} {bs : List UInt8} (h : RdC w0 A base (u8s bs)) (lo m : Nat) (hm : bs.length ≤ m) : RdC w0 A (slB base lo m 1) (u8s (bs.drop lo)) := by
 have := rdb h lo m (bs.length - lo) (by omega)
 rwa [List.take_of_length_le (by rw [List.length_drop]; omega)] at this
theorem rdbT {w0 : World} {A : List HProp} {base : Option Addr} {bs : List UInt8} (h : RdC w0 A base (u8s bs)) (k : Nat) : RdC w0 A base (u8s (bs.take k)) := by
 have := h.take k
 rwa [u8s_take] at this
theorem made_row {w0 w : World} {R : List HProp} {b n : Nat} {e : TypeId} (hn : n ≤ maxLen) (H : Own w0 (cel b (madeCells (Value.int .u8 0).cells (n * 1)).toList e :: R) w) : Own w0 (row (some ⟨b, 0, none⟩) n 1 e (u8s []) :: R) w :=
 H.intro_row (List.nil_prefix) (by rw [made_rep rfl, List.length_replicate]) hn
theorem vslHM {k k' : IntKind} {hi mx : Int} (ht : P.underlying t = some (.slice e)) (hs : sizeT P e sz = true) (hx : ev n ρ x = .slice base l c) (hhi : ev n ρ y = .int k hi) (hmx : ev n ρ z = .int k' mx) (h0 : 0 ≤ hi) (h1 : hi ≤ mx) (h2 : mx ≤ c) :
  Val P w0 n ρ A ⟨dd, .slice t x none (some y) (some z), T, pos, af, g⟩ (.slice base hi.toNat mx.toNat) := fun w hw => by
 have h3 : 0 ≤ mx := by omega
 have h4 : hi ≤ (mx.toNat : Int) := by omega
 have h5 : ¬ max mx 0 < hi := by omega
 simp [execOp, hx, hhi, hmx, Instr.sliceAt, run_underlying ht, Instr.slice, Instr.sliceBounds, Instr.sliceBound, asIntOf, h0, h1, h2, h3, h4, h5, run_sizeOf_of hs]
 all_goals (cases base <;> simp [Addr.add])
 all_goals (exact fun h => absurd h h5)
theorem cvs {str : ByteArray} (ht : P.underlying t = some .string) (h2 : P.underlying t2 = some (.slice e)) (he : P.underlying e = some (.int .u8)) (hx : ev n ρ x = .string str) (hl : str.size ≤ maxLen)
  (h : ∀ g c', str.size ≤ c' → WL P w0 n ops Q rest (set ρ dst (.slice (some ⟨g, 0, none⟩) str.size c')) (row (some ⟨g, 0, none⟩) c' 1 e (u8s str.data.toList) :: A)) :
  WL P w0 n ops Q (⟨some dst, .convert t t2 x, T, pos, af, none⟩ :: rest) ρ A :=
 WL.step rfl fun w hw => by
  have hge := grownCap_ge w str.size 0 e
  have hcm := grownCap_le_maxLen w str.size 0 e hl
  have hlen : ((u8s str.data.toList) ++ List.replicate (grownCap w str.size 0 e - str.size) (Value.int .u8 0)).length = grownCap w str.size 0 e := by
   simp; omega
  have hO := (hw.drew.alloc (.cells ((u8s str.data.toList) ++ List.replicate (grownCap w str.size 0 e - str.size) (Value.int .u8 0)).toArray e))
  have hh : (World.alloc w.drew (.cells ((u8s str.data.toList) ++ List.replicate (grownCap w str.size 0 e - str.size) (Value.int .u8 0)).toArray e)).heap[w.heap.size]? = some (.cells ((u8s str.data.toList) ++ List.replicate (grownCap w str.size 0 e - str.size) (Value.int .u8 0)).toArray e) := hO.heap.1
  refine ⟨.value (.slice (some ⟨w.heap.size, 0, none⟩) str.size (grownCap w str.size 0 e)), ((World.alloc w.drew (.cells ((u8s str.data.toList) ++ List.replicate (grownCap w str.size 0 e - str.size) (Value.int .u8 0)).toArray e)).freeze ⟨w.heap.size, grownCap w str.size 0 e, none⟩ 1), _, _, ?_, put_act .., Own.intro_row (cur := (u8s str.data.toList) ++ List.replicate (grownCap w str.size 0 e - str.size) (Value.int .u8 0)) (List.prefix_append _ _) (by simpa using hlen) hcm (Own.intro_cel (fz := (grownCap w str.size 0 e, grownCap w str.size 0 e + 1)) ?_ (hO.turned ?_)), h _ _ hge⟩
  ·have hs : (World.alloc w.drew (.cells ((u8s str.data.toList) ++ List.replicate (grownCap w str.size 0 e - str.size) (Value.int .u8 0)).toArray e)).shape? w.heap.size = some (e, grownCap w str.size 0 e) := by
    simp only [World.shape?, hh]
    simp
    omega
   have hA : ∀ k : Nat, ((u8s str.data.toList) ++ List.replicate k (Value.int .u8 0)).toArray = Array.map (fun b : UInt8 => Value.int .u8 (b.toNat : Int)) str.data ++ Array.replicate k (Value.int .u8 0) := fun k => by
    apply Array.ext'
    simp [u8s, u8v]
   rw [hA] at hs ⊢
   unfold grownCap at hs ⊢
   simp [execOp, hx, convert, run_underlying ht, run_underlying h2, run_underlying he, Conv.stringToBytes, Question.forced, markStringish, newRow, Result.andThen, hs]
  ·unfold NF; right; rw [hlen]; simp
  ·refine ⟨rfl, rfl, rfl, by simp [World.freeze], ?_, fun k hk => ?_⟩
   ·simp only [World.freeze]
    rw [if_neg (by decide)]
    rw [Array.getElem?_modify, if_pos rfl, hh]
    rfl
   ·have : ¬ w.heap.size = k := fun e => hk e.symm
    simp [World.freeze, Array.getElem?_modify, this]
end
def rows (e : TypeId) : List (Sla UInt8) → HProp
 | [] => emp
 | a :: l => star (row a.base a.cap 1 e (u8s a.xs)) (rows e l)
theorem rows_snoc {w0 w : World} {e : TypeId} {y : Sla UInt8} : ∀ {l : List (Sla UInt8)} {A : List HProp}, Own w0 (row y.base y.cap 1 e (u8s y.xs) :: rows e l :: A) w → Own w0 (rows e (l ++ [y]) :: A) w
 | [], A, H => H.intro_star
 | z :: l, A, H => by
  have h1 := H.pk1.star.pk1.pk2
  exact ((rows_snoc (l := l) (h1.ix [0, 1, 2])).ix [1, 0]).intro_star
theorem RdC.of_rows {w0 : World} {A : List HProp} {e : TypeId} {l : List (Sla UInt8)} {x : Sla UInt8} (hm : rows e l ∈ A) (hx : x ∈ l) : RdC w0 A x.base (u8s x.xs) := fun w hw => by
 obtain ⟨R, hR⟩ := hw.mem hm
 clear hm hw
 induction l generalizing R with
 | nil => cases hx
 | cons z l ih =>
  have h1 := hR.star
  rcases List.mem_cons.1 hx with rfl | hx
  ·exact RdC.of_row (A := row x.base x.cap 1 e (u8s x.xs) :: rows e l :: R) (List.Mem.head _) w h1
  ·exact ih hx _ h1.pk1
theorem Own.nil_u8 {w0 w : World} {R : List HProp} {e : TypeId} (h : Own w0 R w) : Own w0 (Sl.row none 0 1 e (u8s []) :: R) w := h.intro_row_nil
theorem bss_snoc (l : List (Sla UInt8)) (y : Sla UInt8) : bss (l ++ [y]) = bss l ++ [.slice y.base y.xs.length y.cap] := by simp [bss]
theorem WC.known {P : Program} {w0 : World} {n : Nat} {c : Code} {Q : Exit → Act → World → Prop} {ρ : Env} {A : List HProp} {p : Prop} (hp : ∀ w, Own w0 A w → p) (h : p → WC P w0 n c Q ρ A) : WC P w0 n c Q ρ A := ⟨fun w hw => (h (hp w hw)).run w hw⟩
theorem Fun.known {P : Program} {w0 : World} {f : FuncId} {args : List Value} {A : List HProp} {R : Ending → World → Prop} {p : Prop} (hp : ∀ w, Own w0 A w → p) (h : p → Fun P w0 f args A R) : Fun P w0 f args A R := ⟨fun w hw => (h (hp w hw)).run w hw⟩
section
variable {P : Program} {w0 : World} {n : Nat} {ops : Array Oper} {Q : Exit → Act → World → Prop} {ρ : Env} {A R : List HProp} {rest : List Oper} {T T2 : TypeId} {pos pos2 : String} {af af2 : Array Edge} {x y : Operand} {t e : TypeId} {base : Option Addr} {s by_ j l c d1 : Nat} {vs cs : List Value} {z v : Value} {dd : Option Tmp} {g : Option (Nat × Bool)} {d : Nat}
theorem add_add' (a : Addr) (i k : Nat) : (a.add i).add k = a.add (i + k) := by rw [Addr.add_add]
theorem vfldr {f off : Nat} (hb : base.isSome = true) (hf : fieldT P t f off = true) (hx : ev n ρ x = .pointer (base.map (·.add j))) : Val P w0 n ρ A ⟨dd, .fieldAddr t x f, T, pos, af, g⟩ (.pointer (base.map (·.add (j + off)))) := by
 obtain ⟨a, rfl⟩ := Option.isSome_iff_exists.1 hb
 have := vfld (P := P) (w0 := w0) (A := A) (d := dd) (T := T) (pos := pos) (af := af) (g := g) hf hx
 rw [add_add'] at this
 exact this
theorem vnilr (hb : base.isSome = true) (hx : ev n ρ x = .pointer (base.map (·.add j))) : Val P w0 n ρ A ⟨dd, .nilCheck x, T, pos, af, g⟩ (.pointer (base.map (·.add j))) := by
 obtain ⟨a, rfl⟩ := Option.isSome_iff_exists.1 hb
 exact vnil hx
theorem vlda (ht : aggT P t = true) (hs : sizeT P t s = true) (hx : ev n ρ x = .pointer (base.map (·.add j))) (hR : RdC w0 A base vs) (hj : (vs.drop j).take s = cs) (hl : cs.length = s) (h0 : 0 < s) : Val P w0 n ρ A ⟨dd, .load t x, T, pos, af, g⟩ (.agg cs.toArray) := fun w hw => by
 have hR := hR w hw
 have hget : ∀ k v, cs[k]? = some v → vs[j + k]? = some v := fun k v hk => by
  rw [← hj, List.getElem?_take, List.getElem?_drop] at hk
  split at hk
  ·exact hk
  ·cases hk
 obtain ⟨a, rfl⟩ : ∃ a, base = some a := by
  obtain ⟨v, hv⟩ : ∃ v, cs[0]? = some v := ⟨_, List.getElem?_eq_getElem (by omega)⟩
  obtain ⟨a, ha, _⟩ := hR _ v (hget 0 v hv)
  exact ⟨_, ha⟩
 have hl2 := run_loadCells_list (P := P) w (a.add j) cs (fun k v hv => by
  obtain ⟨a', ha, hc⟩ := hR _ v (hget k v hv)
  cases ha
  rw [add_add']; exact hc)
 rw [hl] at hl2
 simp [execOp, hx, Instr.loadAt, Instr.sureAddr, loadVar, run_isAgg_agg ht, run_sizeOf_of hs, hl2]
theorem fold_sets : ∀ (cs : List Value) (k o : Nat) (cur : Array Value), o + k + cs.length ≤ cur.size →
  (cs.zipIdx k).foldl (fun (a : Array Value) (x : Value × Nat) => a.setIfInBounds (o + x.2) x.1) cur = (cur.toList.take (o + k) ++ cs ++ cur.toList.drop (o + k + cs.length)).toArray
 | [], k, o, cur, h => by simp
 | v :: cs, k, o, cur, h => by
  simp only [List.zipIdx_cons, List.foldl_cons]
  simp only [List.length_cons] at h
  rw [show (fun (a : Array Value) (x : Value × Nat) => a.setIfInBounds (o + x.2) x.1) = (fun (a : Array Value) (x : Value × Nat) => a.setIfInBounds (o + x.2) x.1) from rfl]
  have ih := fold_sets cs (k + 1) o (cur.setIfInBounds (o + k) v) (by simp; omega)
  rw [ih]
  congr 1
  have hlt : o + k < cur.toList.length := by simp; omega
  rw [show (cur.setIfInBounds (o + k) v).toList = cur.toList.set (o + k) v by simp]
  rw [show o + (k + 1) = (o + k) + 1 by omega, List.take_succ_eq_append_getElem (by simpa using hlt), List.take_set, List.set_eq_of_length_le (by rw [List.length_take]; omega)]
  rw [List.drop_set, if_pos (by omega), List.getElem_set_self]
  simp only [List.append_assoc, List.singleton_append, List.length_cons, List.cons_append, List.nil_append]
  rw [show o + k + 1 + cs.length = o + k + (cs.length + 1) by omega]
theorem run_buildSliceA (ht : P.underlying t = some (.slice e)) (hz : zeroT P e z s by_) (w : World) (hc : v.cells.toList = cs) (hs : cs.length = s) (h0 : 0 < s) (h1 : s ≤ 1000) :
  (Instr.buildSlice t 1 #[(0, v)]).run P w = .ok (.slice (some ⟨w.heap.size, 0, none⟩) 1 1) (w.alloc (.cells cs.toArray e)) := by
 obtain ⟨i, hi, hz, hsz, _⟩ := hz
 have hsize : ∀ w, (sizeOf e).run P w = .ok s w := fun w => by simp [sizeOf, typeInfo, hi, hsz]
 have hle : ¬ (1 * s > 2 ^ 24) := by
  have : (2:Nat)^24 = 16777216 := by decide
  omega
 have hz1 : ∀ w, (zeroValue e).run P w = .ok z w := fun w => by simp [zeroValue, typeInfo, hi, hz]
 have hvs : v.cells.size = s := by rw [← hs, ← hc]; simp
 have hfill : ∀ (zero : Array Value), Instr.fill (fun i => some (i * s, s)) ((Array.range (1 * s)).map (zero[· % zero.size]!)) [(0, v)] = some cs.toArray := fun zero => by
  have hcond : ¬ (decide (v.cells.size ≠ s) || decide (0 * s + v.cells.size > ((Array.range (1 * s)).map (zero[· % zero.size]!)).size)) = true := by simp [hvs]
  simp only [Instr.fill]
  rw [if_neg hcond]
  congr 1
  have hv : v.cells = cs.toArray := by rw [← hc]
  have key := fold_sets cs 0 (0 * s) ((Array.range (1 * s)).map (zero[· % zero.size]!)) (by simp [hs])
  rw [hv]
  have hzip : (cs.toArray.zipIdx).foldl (fun (a : Array Value) (x : Value × Nat) => a.setIfInBounds (0 * s + x.2) x.1) ((Array.range (1 * s)).map (zero[· % zero.size]!)) = (cs.zipIdx 0).foldl (fun (a : Array Value) (x : Value × Nat) => a.setIfInBounds (0 * s + x.2) x.1) ((Array.range (1 * s)).map (zero[· % zero.size]!)) := by simp
  refine hzip.trans (key.trans ?_)
  congr 1
  rw [List.drop_eq_nil_of_le (by simp [hs])]
  simp
 unfold Instr.buildSlice
 simp only [Sem.run_bind, run_underlying ht, Result.andThen_ok, hsize, if_neg hle]
 have h0' : ¬ 1 * s = 0 := by omega
 simp only [if_neg h0', Sem.run_bind, Sem.run_pure, Result.andThen_ok, hz1, hfill z.cells]
 simp [newRow]
theorem bslA (ht : P.underlying t = some (.slice e)) (hz : zeroT P e z s by_) (hx : ev n ρ x = v) (hc : v.cells.toList = cs) (hs : cs.length = s) (h0 : 0 < s) (h1 : s ≤ 1000)
  (h : ∀ b, WL P w0 n ops Q rest (set ρ d (.slice (some ⟨b, 0, none⟩) 1 1)) (cel b cs e :: A)) :
  WL P w0 n ops Q (⟨some d, .buildSlice t 1 #[(0, x)], T, pos, af, none⟩ :: rest) ρ A :=
 WL.step rfl fun w hw => by
  have hr := run_buildSliceA (P := P) ht hz w hc hs h0 h1
  exact ⟨.value _, w.alloc (.cells cs.toArray e), _, _, by simp [execOp, hx, hr]; rfl, put_act .., Own.intro_cel (fz := (0, 0)) (NF.zero _) (by simpa using hw.alloc _), h _⟩
theorem apA (ht : P.underlying t = some (.slice e)) (hz : zeroT P e z s by_) (hzs : Nat.beq z.cells.size s = true) (hx : ∀ u, ev n (set ρ d1 u) x = .slice base l c) (hd : ∀ u, ev n (set ρ d1 u) (.tmp d1) = u) (hy : ev n ρ y = v) (hc : v.cells.toList = cs) (hs : cs.length = s) (h0 : 0 < s) (h1 : s ≤ 1000) (ho : ∀ v ∈ cs, v.oneCell' = true)
  (hl : vs.length = l * s) (h63 : l + 1 ≤ maxLen) (hby : (l + 1) * by_ ≤ 140737488355328)
  (h : ∀ g base' c', l + 1 ≤ c' → WL P w0 n ops Q rest (set (set ρ d1 (.slice (some ⟨g, 0, none⟩) 1 1)) d (.slice base' (l + 1) c')) (row base' c' s e (vs ++ cs) :: R)) :
  WL P w0 n ops Q (⟨some d1, .buildSlice t 1 #[(0, y)], T, pos, af, none⟩ :: ⟨some d, .call ⟨.builtin .append, #[x, .tmp d1], #[t, t]⟩, T2, pos2, af2, none⟩ :: rest) ρ (row base c s e vs :: R) :=
 bslA ht hz hy hc hs h0 h1 fun g => by
  refine WL.perm (A' := row base c s e vs :: cel g cs e :: R) ?_ (fun w hw => hw.pk1)
  refine ap (by simpa using h0) ht hz hzs (hx _) (hd _) hl (m := 1) (news := cs) (by rw [hs, Nat.one_mul]) ho (RdC.of_cel 0 (List.Mem.tail _ (List.Mem.head _)) (by simp)) h63 hby fun base' c' hc' => ?_
  exact WL.perm (h g base' c' hc') (fun w hw => hw.pk1.tail)
theorem stA {b : Nat} {old : List Value} (hs : sizeT P t s = true) (hx : ev n ρ x = .pointer (some ⟨b, 0, none⟩)) (hv : ev n ρ y = .agg cs.toArray) (hl : cs.length = s) (ho : old.length = s) (h1 : ∀ v ∈ cs, v.oneCell' = true)
  (h : WL P w0 n ops Q rest ρ (cel b cs e :: R)) : WL P w0 n ops Q (⟨none, .store t x y, T, pos, af, none⟩ :: rest) ρ (cel b old e :: R) :=
 WL.step rfl fun w hw => by
  obtain ⟨fz, hf, hO⟩ := hw.cel
  obtain ⟨w', hr, hT⟩ := run_storeCells_cel (P := P) (o := 0) cs 0 old w hO.heap.1 hf (by simp; omega) h1
  have hsp : splice old 0 cs = cs := by
   unfold splice
   simp only [List.take_zero, List.nil_append, Nat.zero_add]
   rw [List.drop_eq_nil_of_le (by omega), List.append_nil]
  have hr' : (storeCells ⟨b, 0, none⟩ cs).run P w = .ok () w' := by simpa using hr
  refine ⟨.skip, w', _, _, ?_, rfl, Own.intro_cel (fz := fz) (by rw [hl, ← ho]; exact hf) (hO.turned (by simpa [hsp] using hT)), h⟩
  simp [execOp, hx, hv, Instr.storeAt, Instr.sureAddr, storeVar, Value.cells, run_sizeOf_of hs, hl, hr', Result.andThen]
end
theorem flat_at {α : Type} {f : α → List Value} {s : Nat} : ∀ {l : List α} {i k : Nat}, (∀ x ∈ l, (f x).length = s) → (h : i < l.length) → k < s → (l.flatMap f)[i * s + k]? = (f l[i])[k]?
 | [], _, _, _, h, _ => by simp at h
 | y :: l, 0, k, hs, h, hk => by
  have := hs y (by simp)
  rw [List.flatMap_cons, Nat.zero_mul, Nat.zero_add, List.getElem?_append_left (by omega)]; rfl
 | y :: l, i + 1, k, hs, h, hk => by
  have hy := hs y (by simp)
  rw [List.flatMap_cons, List.getElem?_append_right (by rw [hy, Nat.succ_mul]; omega), hy]
  have e : (i + 1) * s + k - s = i * s + k := by rw [Nat.succ_mul]; omega
  rw [e, flat_at (fun x hx => hs x (by simp [hx])) (by simpa using h) hk]
  rfl
theorem flat_take {α : Type} {f : α → List Value} {s : Nat} : ∀ {l : List α} {i : Nat}, (∀ x ∈ l, (f x).length = s) → (h : i < l.length) → ((l.flatMap f).drop (i * s)).take s = f l[i]
 | [], _, _, h => by simp at h
 | y :: l, 0, hs, h => by
  have := hs y (by simp)
  rw [List.flatMap_cons, Nat.zero_mul, List.drop_zero]
  exact List.take_left' this
 | y :: l, i + 1, hs, h => by
  have hy := hs y (by simp)
  rw [List.flatMap_cons, Nat.succ_mul, Nat.add_comm, ← List.drop_drop, List.drop_left' hy, flat_take (fun x hx => hs x (by simp [hx])) (by simpa using h)]
  rfl
theorem flat_len {α : Type} {f : α → List Value} {s : Nat} {l : List α} (hs : ∀ x ∈ l, (f x).length = s) : (l.flatMap f).length = l.length * s := by
 induction l with
 | nil => simp
 | cons y l ih => rw [List.flatMap_cons, List.length_append, ih fun x hx => hs x (by simp [hx]), hs y (by simp), List.length_cons, Nat.succ_mul]; omega
end Go.Sl
end
section
set_option linter.unusedVariables false
set_option linter.unusedSimpArgs false
namespace Go.Sl
open Go.RowKit
open Go.MapKept
def fence (r : Option Nat) : Fence := { Fence.wide with round := r }
def behind (ds : List Deferred) (Q : Exit → Act → World → Prop) : Exit → Act → World → Prop
  | .outgrown, _, _ => False
  | e, a, w => Q e { a with defers := a.defers ++ ds } w
def noDefer (o : Oper) : Bool := match o.op with
  | .defer _ => false
  | _ => true
theorem noDefer_spec {o : Oper} (h : noDefer o = true) : ∀ c, o.op ≠ .defer c := fun c hc => by simp [noDefer, hc] at h
theorem not_out {ds : List Deferred} {Q : Exit → Act → World → Prop} : ¬ LetsOut (behind ds Q) := fun ⟨_, _, h⟩ => h
theorem callsIn_fence {r : Option Nat} {k : Nat} {P : Program} {f : FuncId} {args : Array Value} {w : World} {R : Ending → World → Prop} : CallsIn (fence r) k P f args w R ↔ Calls P f args w R := callsIn_wide
theorem rowsIn_fence {r : Option Nat} {k : Nat} {P : Program} {row : String} {args : Array Value} {w : World} {R : Value → World → Prop} (h : Rows P row args w R) : RowsIn (fence r) k P row args w R :=
  fun c cs _ => let ⟨v, w', hr, hs⟩ := h c cs; ⟨v, w', hr, stepsIn_wide.2 hs⟩
theorem put_app (a : Act) (ds : List Deferred) (d : Option Tmp) (v : Value) : ({ a with defers := a.defers ++ ds } : Act).put d v = { a.put d v with defers := (a.put d v).defers ++ ds } := by
  cases d <;> rfl
theorem uponIn_of {P : Program} {r : Option Nat} {k : Nat} {ds : List Deferred} {o : Oper} {a : Act} {next next' : Act → World → Prop} {Q : Exit → Act → World → Prop} (hn : ∀ a w, next a w → next' { a with defers := a.defers ++ ds } w) (res : Result Next)
    (h : o.upon P a next (behind ds Q) res) : o.uponIn (fence r) k P { a with defers := a.defers ++ ds } next' Q res := by
  cases res with
  | ok x w =>
    cases x <;> simp only [Oper.upon] at h <;> simp only [Oper.uponIn]
    all_goals first
      | (rw [put_app]; exact hn _ _ h)
      | (have := hn _ _ h; cases hd : o.dst <;> simpa [hd, Act.put] using this)
      | (refine ⟨fun h0 => by simp [fence, Fence.wide] at h0, callsIn_fence.2 (Calls.mono h fun e w'' he => ?_)⟩
         cases e with
         | returned v => simp only at he ⊢; rw [put_app]; exact hn _ _ he
         | panicked c => exact he
         | outgrown => exact absurd he not_out)
      | (refine ⟨fun h0 => by simp [fence, Fence.wide] at h0, rowsIn_fence (Rows.mono h fun v w'' he => ?_)⟩
         rw [put_app]; exact hn _ _ he)
      | exact h
  | halt x w => cases x <;> simp only [Oper.upon] at h <;> simp only [Oper.uponIn] <;> exact h
theorem ops_behind {P : Program} {r : Option Nat} {ds : List Deferred} {ops : Array Oper} {Q : Exit → Act → World → Prop} (hd : ∀ (i : Nat) (o : Oper), ops[i]? = some o → noDefer o = true) : ∀ (l : List Nat) (a : Act) (w : World),
    wpOps P ops (behind ds Q) l a w → wpOpsIn (fence r) 0 P ops Q l { a with defers := a.defers ++ ds } w
  | [], a, w, h => h
  | i :: l, a, w, h => by
    simp only [wpOps, wpOpsIn] at h ⊢
    cases ho : ops[i]? with
    | none => simp only [ho] at h ⊢; exact ops_behind hd l a w h
    | some o =>
      simp only [ho] at h ⊢
      split
      · rename_i hw
        simp only [hw, if_true] at h
        refine ⟨fun _ _ => trivial, ?_⟩
        rw [Oper.semAt_eq _ _ _ (noDefer_spec (hd i o ho))]
        rcases h with h | ⟨_, h⟩
        · exact uponIn_of (fun a w h => ops_behind hd l a w h) _ h
        · exact absurd h not_out
      · rename_i hw
        simp only [hw, if_false, Bool.false_eq_true] at h
        refine ⟨fun _ _ => trivial, ?_⟩
        rw [put_app]
        exact ops_behind hd l _ w h
section
variable {P : Program} {w0 : World} {n : Nat} {r : Option Nat} {ds : List Deferred} {Q Q' : Exit → Act → World → Prop} {ρ : Env} {A A' : List HProp} {x y c : Code} {l l0 : List Oper}
structure WG (P : Program) (w0 : World) (r : Option Nat) (ds : List Deferred) (n : Nat) (c : Code) (Q : Exit → Act → World → Prop) (ρ : Env) (A : List HProp) : Prop where
  run : ∀ w, Own w0 A w → c.wpIn (fence r) 0 P Q ⟨arr n ρ, ds⟩ w
theorem WG.perm (h : WG P w0 r ds n c Q ρ A') (hA : ∀ w, Own w0 A w → Own w0 A' w) : WG P w0 r ds n c Q ρ A := ⟨fun w hw => h.run w (hA w hw)⟩
theorem WG.seq (h : WG P w0 r ds n x (Exit.then (y.wpIn (fence r) 0 P Q) Q) ρ A) : WG P w0 r ds n (.seq x y) Q ρ A := ⟨fun w hw => wpIn_seq (h.run w hw)⟩
theorem WG.block {i : Nat} (h : WG P w0 r ds n c (Exit.inBlock i Q) ρ A) : WG P w0 r ds n (.block i c) Q ρ A := ⟨fun w hw => wpIn_block (h.run w hw)⟩
theorem WG.skip (h : WX w0 n (behind ds Q) .normal ρ A) : WG P w0 r ds n .skip Q ρ A := ⟨fun w hw => wpIn_skip (h.run w hw)⟩
theorem WG.ret (h : WX w0 n (behind ds Q) .ret ρ A) : WG P w0 r ds n .ret Q ρ A := ⟨fun w hw => wpIn_ret (h.run w hw)⟩
theorem WG.ite {p : Prop} [Decidable p] {o : Operand} (hc : ev n ρ o = .bool (decide p)) (ht : p → WG P w0 r ds n x Q ρ A) (hf : ¬ p → WG P w0 r ds n y Q ρ A) : WG P w0 r ds n (.cond o x y) Q ρ A := ⟨fun w hw => by
  have he : (⟨arr n ρ, ds⟩ : Act).eval o = .bool (decide p) := by rw [← hc, ← eval_act]; rfl
  exact wpIn_cond_split he (fun h => (ht (by simpa using h)).run w hw) (fun h => (hf (by simpa using h)).run w hw)⟩
theorem hd_of {l : List Oper} (hd : l.all noDefer = true) : ∀ (i : Nat) (o : Oper), (l.toArray)[i]? = some o → noDefer o = true := fun i o h => by
  have : o ∈ l := List.mem_of_getElem? (by simpa using h)
  exact List.all_eq_true.1 hd o this
theorem WG.region {i : Nat} (hd : l.all noDefer = true) (h : WL P w0 n l.toArray (behind ds Q) l ρ A) : WG P w0 r ds n (.region i l.toArray false) Q ρ A := ⟨fun w hw => by
  refine wpIn_region ?_
  have := ops_behind (r := r) (hd_of hd) (List.range l.toArray.size) (act n ρ) w (by
    rw [List.range_eq_range', ← Array.length_toList, wpOps_eq_wpList l.toArray.toList 0 (by simp)]
    simpa using h.run w hw)
  exact this⟩
theorem WG.plan {i : Nat} (p : Plan) (hm : P.follows .mixedOrders = true) (hB : (topB l0.toArray p && l0.all noDefer) = true) (h : WPl P w0 n l0 (barP p) (behind ds Q) (fun _ => True) p ρ A) : WG P w0 r ds n (.region i l0.toArray true) Q ρ A := ⟨fun w hw => by
  simp only [Bool.and_eq_true] at hB
  obtain ⟨hB, hd⟩ := hB
  simp only [topB, Bool.and_eq_true] at hB
  obtain ⟨_, h3⟩ := h.run hB.1.1
  refine wpIn_region_draw fun t => ?_
  simp only [Region.schedule, hm, Bool.true_or, if_true]
  exact ops_behind (r := r) (hd_of hd) _ (act n ρ) _ (wpAny_sound _ t _ _ _ (wpAny_of_G _ _ _ _ _ _ hw.drew (h3 _ _ hB.2 (by have := hB.1.2; simpa using this))))⟩
theorem WX.gthenN (h : WG P w0 none ds n y Q' ρ A) : WX w0 n (behind ds (Exit.then (y.wp P Q') Q)) .normal ρ A := ⟨fun w hw => wpIn_wide.1 (h.run w hw)⟩
theorem WX.gthenM (h : WG P w0 r ds n y Q' ρ A) : WX w0 n (behind ds (Exit.then (y.wpIn (fence r) 0 P Q') Q)) .normal ρ A := ⟨h.run⟩
theorem WX.gblockN {i : Nat} (h : WX w0 n (behind ds Q) .normal ρ A) : WX w0 n (behind ds (Exit.inBlock i Q)) .normal ρ A := ⟨h.run⟩
end
section
variable {P : Program} {w0 : World} {n : Nat} {ops : Array Oper} {Q : Exit → Act → World → Prop} {ρ : Env} {A A' : List HProp} {rest : List Oper}
def YieldA (P : Program) (w0 : World) (l : Nat) (v : Value) (A A' : List HProp) : Prop := ∀ w, Own w0 A w → ∃ fn tmps assign body, (Instr.yield l #[v]).run P w = .ok (.round l fn tmps assign body) w ∧
  RoundIn Fence.wide 0 P l fn tmps assign body w fun e w' => e = .returned (.bool true) ∧ Own w0 A' w'
structure WLI (P : Program) (w0 : World) (n : Nat) (ops : Array Oper) (Q : Exit → Act → World → Prop) (l : List Oper) (ρ : Env) (A : List HProp) : Prop where
  run : ∀ w, Own w0 A w → wpListIn Fence.wide 0 P ops Q l (act n ρ) w
theorem listIn_step {o : Oper} {a : Act} {w : World}
    (h : if Region.wanted o (yielded ops a.tmps) then o.wpIn Fence.wide 0 P a w (wpListIn Fence.wide 0 P ops Q rest) Q else wpListIn Fence.wide 0 P ops Q rest (a.put o.dst undef) w) : wpListIn Fence.wide 0 P ops Q (o :: rest) a w := by
  unfold wpListIn
  split
  · rename_i hw; rwa [if_pos hw] at h
  · rename_i hw; rw [if_neg hw] at h; exact ⟨fun _ _ => trivial, h⟩
theorem WC.regionI {i : Nat} {l : List Oper} (h : WLI P w0 n l.toArray Q l ρ A) : WC P w0 n (.region i l.toArray false) Q ρ A := ⟨fun w hw => by
  refine (wpIn_wide (n := 0)).1 (wpIn_region_lit (h.run w hw))⟩
theorem WLI.nil (h : WX w0 n Q .normal ρ A) : WLI P w0 n ops Q [] ρ A := ⟨fun w hw => h.run w hw⟩
variable {d : Nat} {op : Op} {T : TypeId} {pos : String} {af : Array Edge} {v : Value} {g : Nat} {b : Bool}
theorem WLI.sv (hv : Val P w0 n ρ A ⟨some d, op, T, pos, af, none⟩ v) (h : WLI P w0 n ops Q rest (set ρ d v) A) : WLI P w0 n ops Q (⟨some d, op, T, pos, af, none⟩ :: rest) ρ A := by
  refine ⟨fun w hw => listIn_step ?_⟩
  rw [if_pos (by simp [Region.wanted])]
  refine ⟨fun _ _ => trivial, ?_⟩
  have : (Oper.semAt Fence.wide.round (act n ρ).eval ⟨some d, op, T, pos, af, none⟩).run P w = .ok (.value v) w := by
    show (execOp _ _).run P w = _
    rw [eval_act, hv w hw]
  rw [this, Oper.uponIn_value, put_act]
  exact h.run w hw
theorem WLI.svg (hg : yieldN n ρ ops g = some b) (hv : Val P w0 n ρ A ⟨some d, op, T, pos, af, some (g, b)⟩ v) (h : WLI P w0 n ops Q rest (set ρ d v) A) : WLI P w0 n ops Q (⟨some d, op, T, pos, af, some (g, b)⟩ :: rest) ρ A := by
  refine ⟨fun w hw => listIn_step ?_⟩
  have hw' : Region.wanted ⟨some d, op, T, pos, af, some (g, b)⟩ (yielded ops (act n ρ).tmps) = true := by
    simp only [Region.wanted, act, yielded_arr, hg, beq_self_eq_true]
  rw [if_pos hw']
  refine ⟨fun _ _ => trivial, ?_⟩
  have : (Oper.semAt Fence.wide.round (act n ρ).eval ⟨some d, op, T, pos, af, some (g, b)⟩).run P w = .ok (.value v) w := by
    show (execOp _ _).run P w = _
    rw [eval_act, hv w hw]
  rw [this, Oper.uponIn_value, put_act]
  exact h.run w hw
theorem WLI.sng (hg : (yieldN n ρ ops g == some b) = false) (h : WLI P w0 n ops Q rest (set ρ d undef) A) : WLI P w0 n ops Q (⟨some d, op, T, pos, af, some (g, b)⟩ :: rest) ρ A := by
  refine ⟨fun w hw => listIn_step ?_⟩
  have hw' : ¬ Region.wanted ⟨some d, op, T, pos, af, some (g, b)⟩ (yielded ops (act n ρ).tmps) = true := by
    simp only [Region.wanted, act, yielded_arr, hg]; simp
  rw [if_neg hw', put_act]
  exact h.run w hw
theorem run_yv {x y : Operand} {l : Nat} {tys : Array TypeId} {o : Option (Nat × Bool)} {fn : FuncId} {tmps : Array Value} {assign body : Code} {w : World} (hx : ev n ρ x = .func (.yield l) #[] #[]) (hy : ev n ρ y = v) (hr : (Instr.yield l #[v]).run P w = .ok (.round l fn tmps assign body) w) :
    (execOp (ev n ρ) ⟨some d, .call ⟨.value x, #[y], tys⟩, T, pos, af, o⟩).run P w = .ok (.round l fn tmps assign body) w := by
  simp only [execOp, resolve, hx, hy, Deferred.ofValue, Sem.run_bind, Sem.run_pure, Result.andThen_ok, invoke]
  simpa [hy] using hr
theorem WLI.yg {x y : Operand} {l : Nat} {tys : Array TypeId} (hg : yieldN n ρ ops g = some b) (hx : ev n ρ x = .func (.yield l) #[] #[]) (hy : ev n ρ y = v) (hY : YieldA P w0 l v A A')
    (h : WLI P w0 n ops Q rest (set ρ d (.bool true)) A') : WLI P w0 n ops Q (⟨some d, .call ⟨.value x, #[y], tys⟩, T, pos, af, some (g, b)⟩ :: rest) ρ A := by
  refine ⟨fun w hw => listIn_step ?_⟩
  have hw' : Region.wanted ⟨some d, .call ⟨.value x, #[y], tys⟩, T, pos, af, some (g, b)⟩ (yielded ops (act n ρ).tmps) = true := by
    simp only [Region.wanted, act, yielded_arr, hg, beq_self_eq_true]
  rw [if_pos hw']
  refine ⟨fun _ _ => trivial, ?_⟩
  obtain ⟨fn, tmps, assign, body, hr, hR⟩ := hY w hw
  have : (Oper.semAt Fence.wide.round (act n ρ).eval ⟨some d, .call ⟨.value x, #[y], tys⟩, T, pos, af, some (g, b)⟩).run P w = .ok (.round l fn tmps assign body) w := by
    rw [show Fence.wide.round = none from rfl, Oper.semAt_none, eval_act]
    exact run_yv hx hy hr
  rw [this, Oper.uponIn_round]
  refine ⟨fun h0 => by simp [Fence.wide] at h0, hR.mono ?_⟩
  rintro e w' ⟨rfl, hO⟩
  simp only [put_act]
  exact h.run w' hO
end
def lp (D l : Nat) (r : Loop) : HProp := star (pt D (.deferred (some []))) (pt l (.loop r))
theorem Own.putObj {w0 w : World} {b : Nat} {o o' : Obj} {R : List HProp} (H : Own w0 (pt b o :: R) w) : Own w0 (pt b o' :: R) (w.putObj b o') :=
  H.turn rfl rfl rfl World.putObj_size (World.putObj_heap_same (Array.getElem?_eq_some_iff.1 H.heap.1).1) (fun k hk => World.putObj_heap_other hk)
def mark (D : Nat) : List Deferred := [{ target := .collected D, args := #[] }]
def roundQ (w0 : World) (A : List HProp) : Exit → Act → World → Prop
  | .normal, _, w => Own w0 A w
  | _, _, _ => False
theorem WX.round {w0 : World} {n : Nat} {ρ : Env} {A A' : List HProp} {ds : List Deferred} (h : ∀ w, Own w0 A w → Own w0 A' w) : WX w0 n (behind ds (roundQ w0 A')) .normal ρ A := ⟨fun w hw => h w hw⟩
def asgQ (P : Program) (w0 : World) (n l : Nat) (body : Code) (A A1 A2 : List HProp) : Exit → Act → World → Prop
  | .normal, a, w => ∃ ρ', a = ⟨arr n ρ', []⟩ ∧ Own w0 A w ∧ WG P w0 (some l) [] n body (roundQ w0 A2) ρ' A1
  | _, _, _ => False
section
variable {P : Program} {w0 : World} {n : Nat} {Q : Exit → Act → World → Prop} {ρ : Env} {A A1 A2 : List HProp}
theorem WX.asg {l : Nat} {body : Code} (h : WG P w0 (some l) [] n body (roundQ w0 A2) ρ A1) : WX w0 n (behind [] (asgQ P w0 n l body A A1 A2)) .normal ρ A := ⟨fun w hw => ⟨ρ, by simp [act], hw, h⟩⟩
theorem arr_zip (p : Nat) (v : Value) : (((#[p] : Array Tmp).zip (#[v] : Array Value)).foldl (fun t (x : Tmp × Value) => t.setIfInBounds x.1 x.2) (arr n ρ)) = arr n (set ρ p v) := by
  rw [← arr_set]; simp
theorem lp_head {w : World} {D l : Nat} {r : Loop} {pre : List HProp} (H : Own w0 (pre ++ lp D l r :: A) w) : Own w0 (pt l (.loop r) :: pt D (.deferred (some [])) :: (pre ++ A)) w := (H.perm List.perm_middle).star.pk1
theorem lp_back {w : World} {D l : Nat} {r : Loop} {pre : List HProp} (H : Own w0 (pt l (.loop r) :: pt D (.deferred (some [])) :: (pre ++ A)) w) : Own w0 (pre ++ lp D l r :: A) w := (H.pk1.intro_star).perm List.perm_middle.symm
def busy (r : Loop) : Loop := { r with state := .busy }
theorem ready_self {r : Loop} (hst : r.state = .ready) (hpe : r.pending = none) : ({ busy r with state := .ready, pending := none } : Loop) = r := by
  obtain ⟨st, pe, fn, tm, ps, as_, bo, df⟩ := r
  simp only at hst hpe
  subst hst; subst hpe
  rfl
theorem yield_of {D l p : Nat} {r : Loop} {v : Value} {pre pre' : List HProp} (hst : r.state = .ready) (hpe : r.pending = none) (hps : r.params = #[p]) (htm : r.tmps = arr n ρ)
    (hb : WG P w0 (some l) [] n r.assign (asgQ P w0 n l r.body (pre ++ lp D l r :: A) (pre ++ lp D l (busy r) :: A) (pre' ++ lp D l (busy r) :: A)) (set ρ p v) (pre ++ lp D l r :: A)) :
    YieldA P w0 l v (pre ++ lp D l r :: A) (pre' ++ lp D l r :: A) := fun w hw => by
  have hl := (lp_head hw).heap.1
  refine ⟨r.fn, _, r.assign, r.body, run_yield hl (by simp [hps]), ?_⟩
  rw [hps, htm, arr_zip]
  refine roundIn_of_wpIn (F := Fence.wide) trivial ?_
  refine wpIn_mono (hb.run w hw) ?_
  rintro e a w1 hq
  cases e with
  | normal =>
    obtain ⟨ρ', rfl, hO, hB⟩ := hq
    have h1 := lp_head hO
    refine ⟨_, run_beginRound h1.heap.1 hst, ?_⟩
    refine wpIn_mono (hB.run _ (lp_back (h1.putObj (o' := .loop (busy r))))) ?_
    rintro e a w2 hq
    cases e with
    | normal =>
      have h2 := lp_head hq
      have hr := run_endRound (P := P) none h2.heap.1
      refine ⟨_, _, hr, rfl, ?_⟩
      have h3 := h2.putObj (o' := .loop { busy r with state := if (none : Option Code).isNone then .ready else .done, pending := none })
      have e : ({ busy r with state := if (none : Option Code).isNone then .ready else .done, pending := none } : Loop) = r := ready_self hst hpe
      rw [e] at h3 ⊢
      exact lp_back h3
    | ret => exact hq.elim
    | exit i => exact hq.elim
    | goto t => exact hq.elim
    | panic c => exact hq.elim
    | outgrown => exact hq.elim
  | ret => exact hq.elim
  | exit i => exact hq.elim
  | goto t => exact hq.elim
  | panic c => exact hq.elim
  | outgrown => exact hq.elim
theorem WC.rangeF {g : Operand} {gf : FuncId} {bnd : List Value} {p : Nat} {assign body : Code} (pre : Nat → List HProp) (k0 kN : Nat) (S : Nat → Value → Prop) (hc : callT P gf = true) (hg : ev n ρ g = .func (.func gf) bnd.toArray #[]) (hA : ∀ w, Own w0 A w → Own w0 (pre k0 ++ A1) w)
    (hit : ∀ l R, (∀ k v, S k v → YieldA P w0 l v (pre k ++ R) (pre (k + 1) ++ R)) → Fun P w0 gf (bnd ++ [.func (.yield l) #[] #[]]) (pre k0 ++ R) (Ru w0 (.tuple #[]) (pre kN ++ R)))
    (hb : ∀ l X Y k v, S k v → WG P w0 (some l) [] n assign (asgQ P w0 n l body (pre k ++ X :: A1) (pre k ++ Y :: A1) (pre (k + 1) ++ Y :: A1)) (set ρ p v) (pre k ++ X :: A1))
    (h : ∀ D l r, WX w0 n (behind (mark D) Q) .normal ρ (pre kN ++ lp D l r :: A1)) : WC P w0 n (.rangeFunc g #[p] assign body) Q ρ A := ⟨fun w hw => by
  refine (wpIn_wide (n := 0)).1 (wpIn_rangeFunc fun fn _ => ?_)
  obtain ⟨rec, hrec⟩ : ∃ rec : Loop, rec = { state := .ready, pending := none, fn, tmps := arr n ρ, params := #[p], assign, body, defers := w.heap.size } := ⟨_, rfl⟩
  have hO : Own w0 (pre k0 ++ lp w.heap.size (w.heap.size + 1) rec :: A1) ((w.alloc (.deferred (some []))).alloc (.loop rec)) := by
    have h1 := ((hA w hw).alloc (.deferred (some []))).alloc (.loop rec)
    rw [World.size_alloc] at h1
    exact lp_back h1
  refine ⟨w.heap.size + 1, mark w.heap.size, (w.alloc (.deferred (some []))).alloc (.loop rec), { target := .fn (.func gf) #[], args := bnd.toArray ++ #[.func (.yield (w.heap.size + 1)) #[] #[]] }, (w.alloc (.deferred (some []))).alloc (.loop rec), gf,
    (bnd ++ [Value.func (.yield (w.heap.size + 1)) #[] #[]]).toArray, (w.alloc (.deferred (some []))).alloc (.loop rec), ?_, ?_, fun _ _ => trivial, ?_, fun h0 => by simp [Fence.wide] at h0, ?_⟩
  · rw [hrec]; exact run_enterLoop_outer _ _ _ _ _
  · have he : (act n ρ).eval g = .func (.func gf) bnd.toArray #[] := by rw [eval_act]; exact hg
    simp only [resolve, rangeCall, he]
    simp [go_sem, Deferred.ofValue]
  · simp only [invoke]
    rw [show (bnd.toArray ++ #[Value.func (.yield (w.heap.size + 1)) #[] #[]] ++ #[] : Array Value) = (bnd ++ [Value.func (.yield (w.heap.size + 1)) #[] #[]]).toArray by simp, run_callFunc_of hc]
  · refine callsIn_wide.2 (((hit (w.heap.size + 1) (lp w.heap.size (w.heap.size + 1) rec :: A1) (fun k v hS => ?_)).run _ hO).mono ?_)
    · exact yield_of (p := p) (ρ := ρ) (n := n) (by rw [hrec]) (by rw [hrec]) (by rw [hrec]) (by rw [hrec]) (by
        have e1 : rec.assign = assign := by rw [hrec]
        have e2 : rec.body = body := by rw [hrec]
        rw [e1, e2]
        exact hb _ _ _ k v hS)
    · rintro e w' ⟨_, _, rfl, hO'⟩
      have h1 := lp_head hO'
      refine ⟨_, _, run_endLoop h1.heap.1 (by rw [hrec]; simp), ?_⟩
      have h2 := lp_back (h1.putObj (o' := .loop { rec with state := .exhausted }))
      have e : rec.pending = none := by rw [hrec]
      rw [e] at h2 ⊢
      exact (h _ _ _).run _ h2⟩
end
theorem Own.prefix {w0 w : World} {B : List HProp} : ∀ {A : List HProp}, Own w0 (A ++ B) w → Own w0 A w := fun {A} h => by
  have h1 : Own w0 (B ++ A) w := h.perm List.perm_append_comm
  clear h
  induction B with
  | nil => exact h1
  | cons X B ih => exact ih h1.tail
section
variable {P : Program} {w0 : World} {n : Nat} {ρ : Env} {A : List HProp} {c : Code}
theorem Fun.enterM {f : FuncId} {fn : Func} {args : List Value} {R : Ending → World → Prop} (hf : P.funcs[f]? = some fn) (hb : fn.body = some c) (hn : fn.ntmps = n) (hs : Nat.ble args.length n = true)
    (h : WC P w0 n c (bodyPostM Fence.wide 0 P fn R) (argE args) A) : Fun P w0 f args A R := by
  refine ⟨fun w hw => (callsIn_wide (n := 0)).1 (callsIn_of_wp_marks hf hb trivial (wpIn_wide.2 ?_))⟩
  subst hn
  have := h.run w hw
  rwa [act, ← args_arr args fn.ntmps (by simpa using hs)] at this
variable {ι : Type} {pr : ι → Prop} {val : ι → Value} {post : ι → List HProp} {fn : Func}
theorem WX.ret1M {t : Nat} (hres : fn.results = #[.tmp t]) (i : ι) (hp : pr i) (hv : ev n ρ (.tmp t) = val i) (hA : ∀ w, Own w0 A w → Own w0 (post i) w) : WX w0 n (bodyPostM Fence.wide 0 P fn (Ret w0 pr val post)) .ret ρ A :=
  ⟨fun w hw => by
    have := ((xR (P := P) (w0 := w0) (n := n) (ρ := ρ) (A := A) (fn := fn) hres i hp hv hA).run w hw)
    obtain ⟨_, v, hr, hR⟩ := this
    exact ⟨v, hr, hR⟩⟩
theorem WX.ret1G {t D l : Nat} {r : Loop} (hres : fn.results = #[.tmp t]) (i : ι) (hp : pr i) (hv : ev n ρ (.tmp t) = val i) (hA : ∀ w, Own w0 A w → Own w0 (lp D l r :: post i) w) : WX w0 n (behind (mark D) (bodyPostM Fence.wide 0 P fn (Ret w0 pr val post))) .ret ρ A :=
  ⟨fun w hw => by
    have h1 := (hA w hw).star
    have hk := h1.heap.1
    have h2 := h1.putObj (o' := .deferred none)
    have h4 := h2.tail.tail
    have := ((xR (P := P) (w0 := w0) (n := n) (ρ := ρ) (A := post i) (fn := fn) hres i hp hv (fun _ h => h)).run _ h4)
    obtain ⟨_, v, hr, hR⟩ := this
    exact ⟨by simp, .inl ⟨D, _, rfl, run_takeDeferred hk, v, hr, hR⟩⟩⟩
end
section
variable {P : Program} {w0 : World} {n : Nat} {ops : Array Oper} {Q : Exit → Act → World → Prop} {ρ : Env} {A R : List HProp} {rest : List Oper} {dd : Option Tmp} {T : TypeId} {pos : String} {af : Array Edge} {g : Option (Nat × Bool)} {x y z : Operand} {t kt et : TypeId} {d : TypeDesc} {m : Nat} {ps ps' : List (Value × Value)} {k v : Value}
theorem vfnb {f : FuncId} {cl : List Operand} {vs : List Value} (hv : cl.map (ev n ρ) = vs) : Val P w0 n ρ A ⟨dd, .makeFunc (.func f) cl.toArray #[], T, pos, af, g⟩ (.func (.func f) vs.toArray #[]) := fun w _ => by
  subst hv
  simp [execOp, Instr.makeFunc]
theorem vlenm (ht : P.underlying t = some (.map kt et)) (hx : ev n ρ x = .map (some m)) [hm : MpAt w0 A m d ps] : Val P w0 n ρ A ⟨dd, .call ⟨.builtin .len, #[x], #[t]⟩, T, pos, af, g⟩ (.int .i64 ps.length) := fun w hw => by
  obtain ⟨es, clk, ⟨h1, _, _⟩, hb⟩ := hm.mp w hw
  have hl : ps.length = es.size := by rw [← h1]; simp
  simp [execOp, resolve, invoke, builtin, Builtin.len_, run_underlying ht, hx, goInt, MapKept.run_getObj_map hb, Result.andThen, hl]
theorem ins (ht : P.underlying t = some (.map kt et)) (hd : P.underlying kt = some d) (hx : ev n ρ x = .map (some m)) (hy : ev n ρ y = k) (hz : ev n ρ z = v) (hk : IsKey d k) (hj : PutE ps k v ps')
    (h : WL P w0 n ops Q rest ρ (mp d m ps' :: R)) : WL P w0 n ops Q (⟨none, .insert t x y z, T, pos, af, none⟩ :: rest) ρ (mp d m ps :: R) :=
  ⟨fun w hw => (mpu (T := T) (pos := pos) (af := af) ht hd hx hy hz hk hj h).run w hw⟩
end
section
variable {P : Program} {w0 : World} {n : Nat} {ops : Array Oper} {Q : Exit → Act → World → Prop} {ρ : Env} {A : List HProp} {rest : List Oper} {d : Nat} {op : Op} {T : TypeId} {pos : String} {af : Array Edge}
theorem WLI.svs {p : Prop} [Decidable p] (hv : Val P w0 n ρ A ⟨some d, op, T, pos, af, none⟩ (.bool (decide p))) (ht : p → WLI P w0 n ops Q rest (set ρ d (.bool true)) A) (hf : ¬ p → WLI P w0 n ops Q rest (set ρ d (.bool false)) A) :
    WLI P w0 n ops Q (⟨some d, op, T, pos, af, none⟩ :: rest) ρ A := by
  by_cases h : p
  · exact WLI.sv hv (by simpa [h] using ht h)
  · exact WLI.sv hv (by simpa [h] using hf h)
end
section
variable {P : Program} {w0 : World} {n : Nat} {ρ : Env} {A : List HProp} {dd : Option Tmp} {T t e : TypeId} {pos : String} {af : Array Edge} {g : Option (Nat × Bool)} {x : Operand} {b s : Nat} {vs : List Value}
theorem vldac (ht : aggT P t = true) (hs : sizeT P t s = true) (hx : ev n ρ x = .pointer (some ⟨b, 0, none⟩)) [hc : CelAt A b vs e] (hl : vs.length = s) (h0 : 0 < s) : Val P w0 n ρ A ⟨dd, .load t x, T, pos, af, g⟩ (.agg vs.toArray) :=
  vlda (base := some ⟨b, 0, none⟩) (j := 0) (vs := vs) ht hs (by rw [hx]; rfl) (RdC.of_cel 0 hc.mem (by simp)) (by rw [List.drop_zero, ← hl, List.take_length]) hl h0
variable {ι : Type} {pr : ι → Prop} {val : ι → Value} {post : ι → List HProp} {fn : Func}
theorem WX.ret1c {u : Nat} (hres : fn.results = #[.cell u t]) (ht : aggT P t = true) (hs : sizeT P t s = true) (i : ι) (hp : pr i) (hx : ev n ρ (.tmp u) = .pointer (some ⟨b, 0, none⟩)) [hc : CelAt A b vs e] (hl : vs.length = s) (h0 : 0 < s) (hv : Value.agg vs.toArray = val i) (hA : ∀ w, Own w0 A w → Own w0 (post i) w) : WX w0 n (bodyPost P fn (Ret w0 pr val post)) .ret ρ A :=
  ⟨fun w hw => by
    have h1 := vldac (P := P) (w0 := w0) (dd := none) (T := t) (pos := "") (af := #[]) (g := none) ht hs hx hl h0 w hw
    have hr : (results fn (arr n ρ)).run P w = .ok (.agg vs.toArray) w := by
      have e1 : (arr n ρ).getD u undef = .pointer (some ⟨b, 0, none⟩) := by rw [← hx, ← arr_getD]
      have h2 : (loadVar t ⟨b, 0, none⟩).run P w = .ok (.agg vs.toArray) w := by
        simp only [execOp, hx, Instr.loadAt, Instr.sureAddr] at h1
        cases hl2 : (loadVar t ⟨b, 0, none⟩).run P w with
        | ok v w' => simp [Sem.run_bind, hl2, Result.andThen] at h1; rw [h1.1, h1.2]
        | halt o w' => simp [Sem.run_bind, hl2, Result.andThen] at h1
      have e2 : (arr n ρ)[u]?.getD undef = .pointer (some ⟨b, 0, none⟩) := by rw [← Array.getD_eq_getD_getElem?]; exact e1
      simp only [results, hres]
      simp [e2, asAddr, Sem.run_bind, h2, Result.andThen]
    exact bodyPost_ret hr rfl ⟨i, hp, by rw [← hv], hA w hw⟩⟩
end
section
variable {P : Program} {w0 : World} {n : Nat} {ops : Array Oper} {Q : Exit → Act → World → Prop} {ρ : Env} {A : List HProp} {rest : List Oper} {dd : Option Tmp} {d : Nat} {T t t2 e : TypeId} {pos : String} {af : Array Edge} {g : Option (Nat × Bool)} {x y : Operand} {base : Option Addr} {l c s by_ : Nat} {z : Value}
theorem vsnl (ht : P.underlying t = some (.slice e)) (hx : ev n ρ x = .slice base l c) (hy : ev n ρ y = .slice none 0 0) : Val P w0 n ρ A ⟨dd, .binOp .eql t x y t2, T, pos, af, g⟩ (.bool base.isNone) := fun w _ => by
  simp [execOp, hx, hy, eqGuard_at_slice, binOp, run_equal_slice_nil w t e base l c ht]
theorem bslz (ht : P.underlying t = some (.slice e)) (hz : zeroT P e z s by_)
    (h : ∀ g, WL P w0 n ops Q rest (set ρ d (.slice (some ⟨g, 0, none⟩) 0 0)) (row (some ⟨g, 0, none⟩) 0 s e [] :: A)) :
    WL P w0 n ops Q (⟨some d, .buildSlice t 0 #[], T, pos, af, none⟩ :: rest) ρ A :=
  WL.step rfl fun w hw => by
    obtain ⟨i, hi, hz, hs, _⟩ := hz
    have hO : Own w0 (row (some ⟨w.heap.size, 0, none⟩) 0 s e [] :: A) (w.alloc (.cells #[] e)) := (Own.intro_cel (vs := []) (fz := (0, 0)) (NF.zero _) (by simpa using hw.alloc (.cells #[] e))).cel_row (by simp) (by simp [maxLen])
    refine ⟨.value (.slice (some ⟨w.heap.size, 0, none⟩) 0 0), _, _, _, ?_, put_act .., hO, h _⟩
    simp [execOp, Instr.buildSlice, run_underlying ht, sizeOf, typeInfo, hi, hs, Result.andThen, Instr.fill, newRow, Array.range_zero']
end
section
variable {P : Program} {w0 w : World} {n : Nat} {r : Option Nat} {ds : List Deferred} {Q : Exit → Act → World → Prop} {ρ : Env} {A : List HProp} {c : Code} {ee : Exit}
theorem WG.ex {ι : Type} {B : ι → List HProp} {q : ι → Prop} (hA : ∀ w, Own w0 A w → ∃ i, q i ∧ Own w0 (B i) w) (h : ∀ i, q i → WG P w0 r ds n c Q ρ (B i)) : WG P w0 r ds n c Q ρ A := ⟨fun w hw => by
  obtain ⟨i, hi, hO⟩ := hA w hw
  exact (h i hi).run w hO⟩
theorem WX.exi {ι : Type} {B : ι → List HProp} {q : ι → Prop} (hA : ∀ w, Own w0 A w → ∃ i, q i ∧ Own w0 (B i) w) (h : ∀ i, q i → WX w0 n Q ee ρ (B i)) : WX w0 n Q ee ρ A := ⟨fun w hw => by
  obtain ⟨i, hi, hO⟩ := hA w hw
  exact (h i hi).run w hO⟩
theorem Own.pk7 {A B C D E F G H : HProp} {R : List HProp} (h : Own w0 (A :: B :: C :: D :: E :: F :: G :: H :: R) w) : Own w0 (H :: A :: B :: C :: D :: E :: F :: G :: R) w := h.perm (perm_pk [A, B, C, D, E, F, G] H R)
end
end Go.Sl
end
section
set_option linter.unusedVariables false
set_option linter.unusedSimpArgs false
namespace Go.Raft
structure Cl where
 term : Int
 data : ByteArray
deriving DecidableEq
structure Ml where
 kind : Int
 fr : Int
 to_ : Int
 term : Int
 index : Int
 prev : Int
 commit : Int
 ok : Bool
 cells : List Cl
deriving DecidableEq
structure Rn where
 id : Int
 n : Int
 term : Int
 vote : Int
 log : List Cl
 role : Int
 leader : Int
 commit : Int
 waited : Int
 since : Int
 voted : List Int
 nx : Int → Int
 mt : Int → Int
def atT (l : List Cl) (p : Int) : Int := if 1 ≤ p ∧ p ≤ (l.length : Int) then (l.getD (p.toNat - 1) ⟨0, ByteArray.empty⟩).term else 0
def rises : List Cl → Int → Int → Bool
 | [], _, _ => true
 | c :: l, least, most => decide (max least 1 ≤ c.term ∧ c.term ≤ most ∧ c.data.size ≤ 4096) && rises l c.term most
def oth (id : Int) : Nat → List Int
 | 0 => []
 | k + 1 => if ((k : Int) + 1) = id then oth id k else oth id k ++ [(k : Int) + 1]
def newR (id n term vote : Int) (log : List Cl) : Rn := ⟨id, n, term, vote, log, 0, 0, 0, 0, 0, [], fun _ => 0, fun _ => 0⟩
def mayS (n term vote : Int) (log : List Cl) : Prop := 0 ≤ term ∧ term ≤ 1000000000 ∧ 0 ≤ vote ∧ vote ≤ n ∧ log.length ≤ 10000 ∧ rises log 1 term = true
instance (n term vote : Int) (log : List Cl) : Decidable (mayS n term vote log) := by unfold mayS; infer_instance
def mk (x : Rn) (kind to_ : Int) : Ml := ⟨kind, x.id, to_, x.term, 0, 0, 0, false, []⟩
def feedM (x : Rn) (k : Int) : Ml := { mk x 3 k with index := x.nx k - 1, prev := atT x.log (x.nx k - 1), commit := x.commit, cells := (x.log.drop (x.nx k - 1).toNat).take 8 }
def others (x : Rn) : List Int := oth x.id x.n.toNat
def feedAllS (x : Rn) : Rn × List Ml := ({ x with since := 0 }, (others x).map (feedM { x with since := 0 }))
def haveC (x : Rn) (p : Int) : Int := 1 + (((others x).filter fun k => decide (p ≤ x.mt k)).length : Int)
def countP (x : Rn) : Nat → Int
 | 0 => x.commit
 | p + 1 => if x.commit < (p : Int) + 1 ∧ atT x.log ((p : Int) + 1) = x.term then (if x.n < 2 * haveC x ((p : Int) + 1) then (p : Int) + 1 else countP x p) else x.commit
def countS (x : Rn) : Rn := { x with commit := countP x x.log.length }
def leaderS (x : Rn) : Rn := { x with role := 2, leader := x.id, nx := fun _ => (x.log.length : Int) + 1, mt := fun _ => 0 }
def addS (data : ByteArray) (x : Rn) : Rn := { x with log := x.log ++ [⟨x.term, data⟩] }
def leadS (x : Rn) : Rn × List Ml := if x.n < 2 * (x.voted.length : Int) then feedAllS (countS (if x.log.length < 10000 then addS ByteArray.empty (leaderS x) else leaderS x)) else (x, [])
def askM (x : Rn) (k : Int) : Ml := { mk x 1 k with index := x.log.length, prev := atT x.log x.log.length }
def runS (x : Rn) : Rn := { x with term := x.term + 1, vote := x.id, role := 1, leader := 0, waited := 0, voted := [x.id] }
def tickS (x : Rn) : Rn × List Ml :=
 if x.role = 2 then (if x.since + 1 < 3 then ({ x with since := x.since + 1 }, []) else feedAllS { x with since := x.since + 1 })
 else if x.waited + 1 < 10 + 3 * x.id ∨ x.term = 1000000000 then ({ x with waited := x.waited + 1 }, [])
 else if x.n < 2 then leadS (runS x) else (runS x, (others x).map (askM (runS x)))
def mailOk (id n : Int) (m : Ml) : Prop :=
 (1 ≤ m.fr ∧ m.fr ≤ n ∧ m.fr ≠ id ∧ m.to_ = id ∧ 1 ≤ m.term ∧ m.term ≤ 1000000000 ∧ 0 ≤ m.index ∧ m.index ≤ 10000) ∧
 (m.kind = 2 ∨ m.kind = 4 ∨ ((m.kind = 1 ∨ m.kind = 3) ∧ 0 ≤ m.prev ∧ m.prev ≤ m.term ∧ (m.prev = 0 ↔ m.index = 0) ∧
  (m.kind = 3 → 0 ≤ m.commit ∧ m.commit ≤ 10000 ∧ m.cells.length ≤ 8 ∧ m.index + m.cells.length ≤ 10000 ∧ rises m.cells m.prev m.term = true)))
instance (id n : Int) (m : Ml) : Decidable (mailOk id n m) := by unfold mailOk; infer_instance
def voteOk (x : Rn) (m : Ml) : Prop := m.term = x.term ∧ (x.vote = 0 ∨ x.vote = m.fr) ∧ x.role = 0 ∧ (atT x.log x.log.length < m.prev ∨ m.prev = atT x.log x.log.length ∧ (x.log.length : Int) ≤ m.index)
instance (x : Rn) (m : Ml) : Decidable (voteOk x m) := by unfold voteOk; infer_instance
def askedS (x : Rn) (m : Ml) : Rn × List Ml := (if voteOk x m then { x with vote := m.fr, waited := 0 } else x, [{ mk x 2 m.fr with ok := decide (voteOk x m) }])
def votedS (k : Int) (x : Rn) : Rn := { x with voted := if k ∈ x.voted then x.voted else x.voted ++ [k] }
def votesS (x : Rn) (m : Ml) : Rn × List Ml := if m.term ≠ x.term ∨ m.ok = false ∨ x.role ≠ 1 then (x, []) else leadS (votedS m.fr x)
def reply (x : Rn) (k : Int) (ok : Bool) (at_ : Int) : List Ml := [{ mk x 4 k with ok := ok, index := at_ }]
def mergeS (log : List Cl) (commit : Int) : Int → List Cl → Option (List Cl)
 | _, [] => some log
 | p, c :: l => if atT log (p + 1) = c.term then mergeS log commit (p + 1) l else if p + 1 ≤ commit then none else some (log.take p.toNat ++ c :: l)
def fedS (x : Rn) (m : Ml) : Rn × List Ml :=
 if m.term < x.term then (x, reply x m.fr false x.log.length)
 else if x.role = 2 then (x, [])
 else if (x.log.length : Int) < m.index ∨ atT x.log m.index ≠ m.prev then ({ x with role := 0, leader := m.fr, waited := 0 }, reply x m.fr false (min (x.log.length : Int) (m.index - 1)))
 else match mergeS x.log x.commit m.index m.cells with
  | none => ({ x with role := 0, leader := m.fr, waited := 0 }, [])
  | some log => ({ x with role := 0, leader := m.fr, waited := 0, log := log, commit := max x.commit (min m.commit (m.index + m.cells.length)) }, reply x m.fr true (m.index + m.cells.length))
def upd (f : Int → Int) (k v : Int) : Int → Int := fun j => if j = k then v else f j
def answeredS (x : Rn) (m : Ml) : Rn × List Ml :=
 if m.term ≠ x.term ∨ x.role ≠ 2 ∨ (x.log.length : Int) < m.index then (x, [])
 else if m.ok = false then
  let y := { x with nx := upd x.nx m.fr (max (x.mt m.fr + 1) (min (m.index + 1) (x.nx m.fr - 1))) }
  (y, [feedM y m.fr])
 else
  let y := countS { x with mt := upd x.mt m.fr (max (x.mt m.fr) m.index), nx := upd x.nx m.fr (max (x.mt m.fr) m.index + 1) }
  if (x.log.length : Int) < max (x.mt m.fr) m.index + 1 then (y, []) else (y, [feedM y m.fr])
def stepS (m : Ml) (x : Rn) : Rn := if x.term < m.term then { x with term := m.term, vote := 0, role := 0, leader := 0 } else x
def takeS (x : Rn) (m : Ml) : Rn × List Ml :=
 if mailOk x.id x.n m then (if m.kind = 1 then askedS (stepS m x) m else if m.kind = 2 then votesS (stepS m x) m else if m.kind = 3 then fedS (stepS m x) m else answeredS (stepS m x) m) else (x, [])
def proposeE (x : Rn) (data : ByteArray) : Int := if data.size = 0 ∨ 4096 < data.size then 1 else if x.role ≠ 2 then 190 else if 10000 ≤ x.log.length then 8 else 0
def proposeS (x : Rn) (data : ByteArray) : Rn × List Ml := feedAllS (countS (addS data x))
structure RInv (x : Rn) : Prop where
 n : 1 ≤ x.n ∧ x.n ≤ 5
 id : 1 ≤ x.id ∧ x.id ≤ x.n
 term : 0 ≤ x.term ∧ x.term ≤ 1000000000
 vote : 0 ≤ x.vote ∧ x.vote ≤ x.n
 log : x.log.length ≤ 10000
 rise : rises x.log 1 x.term = true
 role : x.role = 0 ∨ x.role = 1 ∨ x.role = 2
 lead : x.role ≠ 0 → 1 ≤ x.term
 commit : 0 ≤ x.commit ∧ x.commit ≤ x.log.length
 waited : 0 ≤ x.waited
 since : 0 ≤ x.since ∧ x.since ≤ 2
 voted : x.role = 1 → x.voted.Nodup ∧ ∀ k ∈ x.voted, 1 ≤ k ∧ k ≤ x.n
 peers : x.role = 2 → ∀ k, 0 ≤ x.mt k ∧ x.mt k + 1 ≤ x.nx k ∧ x.nx k ≤ (x.log.length : Int) + 1
theorem oth_mem {id k : Int} : ∀ {n : Nat}, k ∈ oth id n ↔ 1 ≤ k ∧ k ≤ n ∧ k ≠ id
 | 0 => by simp [oth]; omega
 | n + 1 => by
  unfold oth
  have ih := oth_mem (id := id) (k := k) (n := n)
  split
  ·rw [ih]; constructor
   ·rintro ⟨a, b, c⟩; exact ⟨a, by omega, c⟩
   ·rintro ⟨a, b, c⟩; exact ⟨a, by omega, c⟩
  ·rw [List.mem_append, ih, List.mem_singleton]; constructor
   ·rintro (⟨a, b, c⟩ | rfl)
    ·exact ⟨a, by omega, c⟩
    ·exact ⟨by omega, by omega, by omega⟩
   ·rintro ⟨a, b, c⟩
    by_cases h : k = (n : Int) + 1
    ·exact .inr h
    ·exact .inl ⟨a, by omega, c⟩
theorem oth_nodup {id : Int} : ∀ {n : Nat}, (oth id n).Nodup
 | 0 => by simp [oth]
 | n + 1 => by
  unfold oth
  split
  ·exact oth_nodup
  ·rw [List.nodup_append]
   refine ⟨oth_nodup, by simp, ?_⟩
   intro a ha b hb hab
   have := (oth_mem.1 ha).2.1
   simp at hb
   omega
theorem oth_len {id : Int} : ∀ {n : Nat}, (oth id n).length ≤ n
 | 0 => by simp [oth]
 | n + 1 => by
  unfold oth
  have := oth_len (id := id) (n := n)
  split
  ·omega
  ·simp; omega
theorem atT_pos {l : List Cl} {p : Nat} {c : Cl} (h : l[p]? = some c) : atT l ((p : Int) + 1) = c.term := by
 have hp := (List.getElem?_eq_some_iff.1 h).1
 unfold atT
 rw [if_pos ⟨by omega, by omega⟩, show ((p : Int) + 1).toNat - 1 = p by omega, List.getD_eq_getElem?_getD, h]; rfl
theorem atT_zero {l : List Cl} {p : Int} (h : p < 1 ∨ (l.length : Int) < p) : atT l p = 0 := by unfold atT; rw [if_neg (by omega)]
theorem rises_mem {l : List Cl} {least most : Int} (h : rises l least most = true) : ∀ c ∈ l, 1 ≤ c.term ∧ least ≤ c.term ∧ c.term ≤ most ∧ c.data.size ≤ 4096 := by
 induction l generalizing least with
 | nil => simp
 | cons d l ih =>
  simp only [rises, Bool.and_eq_true, decide_eq_true_eq] at h
  intro c hc
  rcases List.mem_cons.1 hc with rfl | hc
  ·omega
  ·have := ih h.2 c hc; omega
theorem atT_bound {l : List Cl} {most p : Int} (h : rises l 1 most = true) (h0 : 0 ≤ most) : 0 ≤ atT l p ∧ atT l p ≤ most := by
 unfold atT
 split
 ·rename_i hp
  have hl : p.toNat - 1 < l.length := by omega
  have := rises_mem h l[p.toNat - 1] (List.getElem_mem hl)
  rw [List.getD_eq_getElem?_getD, List.getElem?_eq_getElem hl]
  simp only [Option.getD_some]
  omega
 ·omega
theorem rises_more {l : List Cl} {least most most' : Int} (h : rises l least most = true) (hm : most ≤ most') : rises l least most' = true := by
 induction l generalizing least with
 | nil => rfl
 | cons d l ih =>
  simp only [rises, Bool.and_eq_true, decide_eq_true_eq] at h ⊢
  exact ⟨by omega, ih h.2⟩
theorem rises_append {l m : List Cl} {least most : Int} : rises (l ++ m) least most = true ↔ rises l least most = true ∧ rises m (if l = [] then least else (l.getLastD ⟨0, ByteArray.empty⟩).term) most = true := by
 induction l generalizing least with
 | nil => simp [rises]
 | cons d l ih =>
  simp only [List.cons_append, rises, Bool.and_eq_true, decide_eq_true_eq, ih, and_assoc]
  cases l with
  | nil => simp [rises]
  | cons e l => simp [List.getLastD]
theorem countP_bound {x : Rn} (h : 0 ≤ x.commit) : ∀ {p : Nat}, x.commit ≤ p ∨ True → x.commit ≤ countP x p ∧ (countP x p ≤ max x.commit p)
 | 0, _ => by unfold countP; omega
 | p + 1, _ => by
  have := countP_bound h (p := p) (.inr trivial)
  unfold countP
  split
  ·split <;> omega
  ·omega
end Go.Raft
end
section
set_option linter.unusedVariables false
set_option linter.unusedSimpArgs false
namespace Go.Raft
theorem RInv.step {x : Rn} {m : Ml} (hx : RInv x) (hm : mailOk x.id x.n m) : RInv (stepS m x) := by
  unfold stepS
  split
  · rename_i h
    have h6 := hm.1
    exact ⟨hx.n, hx.id, ⟨by show 0 ≤ m.term; omega, by show m.term ≤ 1000000000; omega⟩, ⟨Int.le_refl _, by have := hx.n; show 0 ≤ x.n; omega⟩, hx.log, rises_more hx.rise (by show x.term ≤ m.term; omega), .inl rfl, fun h => absurd rfl h, hx.commit, hx.waited, hx.since, fun h => absurd h (by show ¬ (0 : Int) = 1; decide), fun h => absurd h (by show ¬ (0 : Int) = 2; decide)⟩
  · exact hx
theorem getLastD_mem {l : List Cl} {d : Cl} (h : l ≠ []) : l.getLastD d ∈ l := by
  cases l with
  | nil => exact absurd rfl h
  | cons a l => rw [List.getLastD_eq_getLast?, List.getLast?_eq_some_getLast (by simp)]; exact List.getLast_mem _
theorem rises_snoc {l : List Cl} {least most : Int} {c : Cl} (h : rises l least most = true) (hc : max least 1 ≤ c.term ∧ c.term = most ∧ c.data.size ≤ 4096) : rises (l ++ [c]) least most = true := by
  rw [rises_append]
  refine ⟨h, ?_⟩
  simp only [rises, Bool.and_true, decide_eq_true_eq]
  split
  · omega
  · rename_i hn
    have := rises_mem h _ (getLastD_mem (d := ⟨0, ByteArray.empty⟩) hn)
    omega
theorem RInv.add {x : Rn} {d : ByteArray} (hx : RInv x) (hr : x.role = 2) (hl : x.log.length < 10000) (hd : d.size ≤ 4096) : RInv (addS d x) := by
  have h1 := hx.lead (by omega)
  have e : (addS d x).log.length = x.log.length + 1 := by simp [addS]
  exact ⟨hx.n, hx.id, hx.term, hx.vote, by omega, rises_snoc hx.rise ⟨by show max 1 1 ≤ x.term; omega, rfl, hd⟩, hx.role, hx.lead, ⟨hx.commit.1, by have := hx.commit.2; show x.commit ≤ ((addS d x).log.length : Int); omega⟩, hx.waited, hx.since, hx.voted, fun h k => by
    have := hx.peers hr k
    exact ⟨this.1, this.2.1, by show x.nx k ≤ ((addS d x).log.length : Int) + 1; omega⟩⟩
theorem RInv.count {x : Rn} (hx : RInv x) : RInv (countS x) := by
  have h := countP_bound (x := x) hx.commit.1 (p := x.log.length) (.inr trivial)
  have hc := hx.commit
  exact ⟨hx.n, hx.id, hx.term, hx.vote, hx.log, hx.rise, hx.role, hx.lead, ⟨by show 0 ≤ countP x x.log.length; omega, by show countP x x.log.length ≤ (x.log.length : Int); omega⟩, hx.waited, hx.since, hx.voted, hx.peers⟩
theorem RInv.feedAll {x : Rn} (hx : RInv x) : RInv (feedAllS x).1 :=
  ⟨hx.n, hx.id, hx.term, hx.vote, hx.log, hx.rise, hx.role, hx.lead, hx.commit, hx.waited, ⟨Int.le_refl _, by show (0 : Int) ≤ 2; decide⟩, hx.voted, hx.peers⟩
theorem RInv.leader {x : Rn} (hx : RInv x) (hr : x.role = 1) : RInv (leaderS x) :=
  ⟨hx.n, hx.id, hx.term, hx.vote, hx.log, hx.rise, .inr (.inr rfl), fun _ => hx.lead (by omega), hx.commit, hx.waited, hx.since, fun h => absurd h (by show ¬ (2 : Int) = 1; decide), fun _ k => ⟨Int.le_refl _, by show (0 : Int) + 1 ≤ (x.log.length : Int) + 1; omega, Int.le_refl _⟩⟩
theorem RInv.leads {x : Rn} (hx : RInv x) (hr : x.role = 1) : RInv (leadS x).1 := by
  unfold leadS
  split
  · refine RInv.feedAll (RInv.count ?_)
    split
    · rename_i hl
      exact (hx.leader hr).add rfl hl (by decide)
    · exact hx.leader hr
  · exact hx
theorem RInv.run {x : Rn} (hx : RInv x) (ht : x.term ≠ 1000000000) : RInv (runS x) := by
  have h1 := hx.term
  have h2 := hx.id
  exact ⟨hx.n, hx.id, ⟨by show 0 ≤ x.term + 1; omega, by show x.term + 1 ≤ 1000000000; omega⟩, ⟨by show 0 ≤ x.id; omega, hx.id.2⟩, hx.log, rises_more hx.rise (by show x.term ≤ x.term + 1; omega), .inr (.inl rfl), fun _ => by show 1 ≤ x.term + 1; omega, hx.commit, Int.le_refl _, hx.since, fun _ => ⟨by simp [runS], fun k hk => by
    have : k = x.id := by simpa [runS] using hk
    rw [this]; exact hx.id⟩, fun h => absurd h (by show ¬ (1 : Int) = 2; decide)⟩
theorem RInv.since1 {x : Rn} (hx : RInv x) (hs : x.since + 1 < 3) : RInv { x with since := x.since + 1 } := by
  have h := hx.since
  exact ⟨hx.n, hx.id, hx.term, hx.vote, hx.log, hx.rise, hx.role, hx.lead, hx.commit, hx.waited, ⟨by show 0 ≤ x.since + 1; omega, by show x.since + 1 ≤ 2; omega⟩, hx.voted, hx.peers⟩
theorem RInv.tick {x : Rn} (hx : RInv x) : RInv (tickS x).1 := by
  unfold tickS
  split
  · split
    · rename_i h; exact hx.since1 h
    · exact ⟨hx.n, hx.id, hx.term, hx.vote, hx.log, hx.rise, hx.role, hx.lead, hx.commit, hx.waited, ⟨Int.le_refl _, by show (0 : Int) ≤ 2; decide⟩, hx.voted, hx.peers⟩
  · split
    · have h := hx.waited
      exact ⟨hx.n, hx.id, hx.term, hx.vote, hx.log, hx.rise, hx.role, hx.lead, hx.commit, by show 0 ≤ x.waited + 1; omega, hx.since, hx.voted, hx.peers⟩
    · rename_i h1 h2
      have h3 := hx.run (by omega)
      split
      · exact h3.leads rfl
      · exact h3
theorem RInv.asked {x : Rn} {m : Ml} (hx : RInv x) (hm : 1 ≤ m.fr ∧ m.fr ≤ x.n) : RInv (askedS x m).1 := by
  unfold askedS
  show RInv (if voteOk x m then { x with vote := m.fr, waited := 0 } else x)
  split
  · exact ⟨hx.n, hx.id, hx.term, ⟨by show 0 ≤ m.fr; omega, hm.2⟩, hx.log, hx.rise, hx.role, hx.lead, hx.commit, Int.le_refl _, hx.since, hx.voted, hx.peers⟩
  · exact hx
theorem RInv.votedS {x : Rn} {k : Int} (hx : RInv x) (hr : x.role = 1) (hk : 1 ≤ k ∧ k ≤ x.n) : RInv (votedS k x) :=
  ⟨hx.n, hx.id, hx.term, hx.vote, hx.log, hx.rise, hx.role, hx.lead, hx.commit, hx.waited, hx.since, fun h => by
    have h1 := hx.voted hr
    show (if k ∈ x.voted then x.voted else x.voted ++ [k]).Nodup ∧ _
    unfold Raft.votedS
    dsimp only
    split
    · exact h1
    · rename_i hn
      refine ⟨List.nodup_append.2 ⟨h1.1, by simp, ?_⟩, ?_⟩
      · intro a ha b hb hab
        have : b = k := by simpa using hb
        exact hn (this ▸ hab ▸ ha)
      · intro j hj
        rcases List.mem_append.1 hj with hj | hj
        · exact h1.2 j hj
        · have : j = k := by simpa using hj
          exact this ▸ hk, hx.peers⟩
theorem RInv.votes {x : Rn} {m : Ml} (hx : RInv x) (hm : 1 ≤ m.fr ∧ m.fr ≤ x.n) : RInv (votesS x m).1 := by
  unfold votesS
  split
  · exact hx
  · rename_i h
    have hr : x.role = 1 := by omega
    exact (hx.votedS hr hm).leads hr
theorem rises_take {l : List Cl} {least most : Int} (h : rises l least most = true) (k : Nat) : rises (l.take k) least most = true := by
  induction l generalizing least k with
  | nil => simp [rises]
  | cons d l ih =>
    cases k with
    | zero => rfl
    | succ k =>
      simp only [List.take_succ_cons, rises, Bool.and_eq_true, decide_eq_true_eq] at h ⊢
      exact ⟨h.1, ih h.2 k⟩
theorem getLastD_take {l : List Cl} {p : Nat} (hp : 0 < p) (hl : p ≤ l.length) (d : Cl) : (l.take p).getLastD d = l[p - 1] := by
  rw [List.getLastD_eq_getLast?, List.getLast?_eq_getElem?, List.length_take, Nat.min_eq_left hl, List.getElem?_take, if_pos (by omega), List.getElem?_eq_getElem (by omega)]; rfl
theorem mergeS_spec {log log' : List Cl} {commit prev most : Int} : ∀ {cells : List Cl} {p : Nat}, rises log 1 most = true → p ≤ log.length → atT log p = prev → rises cells prev most = true → 0 ≤ commit →
    mergeS log commit p cells = some log' → rises log' 1 most = true ∧ (log' = log ∨ (commit ≤ log'.length ∧ log'.length ≤ p + cells.length)) ∧ log'.take commit.toNat = log.take commit.toNat ∧ (log' = log → p + cells.length ≤ log.length)
  | [], p, h, hp, _, _, _, hm => by
    have : log' = log := by simpa [mergeS] using hm.symm
    subst this
    exact ⟨h, .inl rfl, rfl, fun _ => by simpa using hp⟩
  | c :: l, p, h, hp, hpr, hc, h0, hm => by
    simp only [rises, Bool.and_eq_true, decide_eq_true_eq] at hc
    unfold mergeS at hm
    by_cases h1 : atT log ((p : Int) + 1) = c.term
    · rw [if_pos h1] at hm
      have hpl : p < log.length := by
        rcases Nat.lt_or_ge p log.length with h2 | h2
        · exact h2
        · rw [atT_zero (.inr (by omega))] at h1; omega
      have e : ((p : Int) + 1) = ((p + 1 : Nat) : Int) := rfl
      rw [e] at hm
      have := mergeS_spec (cells := l) (p := p + 1) (prev := c.term) h (by omega) h1 hc.2 h0 hm
      refine ⟨this.1, ?_, this.2.2.1, fun h => by have := this.2.2.2 h; simp only [List.length_cons]; omega⟩
      rcases this.2.1 with h3 | h3
      · exact .inl h3
      · refine .inr ⟨h3.1, ?_⟩; simp only [List.length_cons]; omega
    · rw [if_neg h1] at hm
      by_cases h2 : (p : Int) + 1 ≤ commit
      · rw [if_pos h2] at hm; cases hm
      · rw [if_neg h2, Int.toNat_natCast] at hm
        have hm : log' = log.take p ++ c :: l := by simpa using hm.symm
        subst hm
        have hlen : (log.take p ++ c :: l).length = p + (l.length + 1) := by simp; omega
        refine ⟨?_, .inr ⟨by rw [hlen]; omega, by rw [hlen]; simp⟩, ?_, fun he => ?_⟩
        · rw [rises_append]
          refine ⟨rises_take h p, ?_⟩
          simp only [rises, Bool.and_eq_true, decide_eq_true_eq]
          refine ⟨?_, hc.2⟩
          split
          · exact ⟨by omega, hc.1.2⟩
          · rename_i hne
            have hp0 : 0 < p := by
              rcases Nat.eq_zero_or_pos p with h3 | h3
              · subst h3; simp at hne
              · exact h3
            rw [getLastD_take hp0 hp]
            have e : atT log ((p : Nat) : Int) = log[p - 1].term := by
              have := atT_pos (l := log) (p := p - 1) (c := log[p - 1]) (List.getElem?_eq_getElem (by omega))
              rw [← this]; congr 1; omega
            rw [e] at hpr
            have := rises_mem h _ (List.getElem_mem (show p - 1 < log.length by omega))
            exact ⟨by omega, hc.1.2⟩
        · rw [List.take_append_of_le_length (by rw [List.length_take]; omega), List.take_take, Nat.min_eq_left (by omega)]
        · exfalso
          apply h1
          have hg : log[p]? = some c := by
            rw [← he]
            rw [List.getElem?_append_right (by rw [List.length_take]; omega), List.length_take, Nat.min_eq_left hp, Nat.sub_self]; rfl
          exact atT_pos hg
theorem RInv.fed {x : Rn} {m : Ml} (hx : RInv x) (hm : mailOk x.id x.n m) (hk : m.kind = 3) (ht : m.term ≤ x.term) : RInv (fedS x m).1 := by
  have h1 := hm.2
  have hcs : 0 ≤ m.prev ∧ m.prev ≤ m.term ∧ 0 ≤ m.commit ∧ m.cells.length ≤ 8 ∧ m.index + m.cells.length ≤ 10000 ∧ rises m.cells m.prev m.term = true := by
    rcases h1 with h | h | ⟨_, a, b, c, d⟩
    · omega
    · omega
    · have := d hk; exact ⟨a, b, this.1, this.2.2.1, this.2.2.2.1, this.2.2.2.2⟩
  have hidx := hm.1.2.2.2.2.2.2.1
  have base : RInv { x with role := 0, leader := m.fr, waited := 0 } := ⟨hx.n, hx.id, hx.term, hx.vote, hx.log, hx.rise, .inl rfl, fun h => absurd rfl h, hx.commit, Int.le_refl _, hx.since, fun h => absurd h (by show ¬ (0 : Int) = 1; decide), fun h => absurd h (by show ¬ (0 : Int) = 2; decide)⟩
  unfold fedS
  split
  · exact hx
  · split
    · exact hx
    · split
      · exact base
      · rename_i h2 h3 h4
        have h4' : m.index ≤ x.log.length ∧ atT x.log m.index = m.prev := by
          constructor
          · omega
          · exact Decidable.not_not.1 fun h => h4 (.inr h)
        obtain ⟨p, hp⟩ : ∃ p : Nat, m.index = p := ⟨m.index.toNat, by omega⟩
        split
        · exact base
        · rename_i log' hmg
          rw [hp] at hmg h4'
          have hs := mergeS_spec (prev := m.prev) hx.rise (by omega) h4'.2 (rises_more hcs.2.2.2.2.2 (by omega : m.term ≤ x.term)) hx.commit.1 hmg
          have hc := hx.commit
          have hl := hx.log
          have hlen : log'.length ≤ 10000 := by
            rcases hs.2.1 with h | h
            · rw [h]; exact hl
            · omega
          have hcl : max x.commit (min m.commit (m.index + m.cells.length)) ≤ (log'.length : Int) := by
            rcases hs.2.1 with h | h
            · have := hs.2.2.2 h; rw [h]; omega
            · have h5 : x.commit.toNat ≤ log'.length := by omega
              have h6 : p + m.cells.length ≤ log'.length := by
                rcases Nat.lt_or_ge log'.length (p + m.cells.length) with h7 | h7
                · exact absurd hmg (by
                    intro hmg
                    have : ∀ {cells : List Cl} {p : Nat} {log' : List Cl}, p ≤ x.log.length → (∀ c ∈ cells, 1 ≤ c.term) → mergeS x.log x.commit p cells = some log' → p + cells.length ≤ log'.length := by
                      intro cells
                      induction cells with
                      | nil => intro p log' hp _ h; have : log' = x.log := by simpa [mergeS] using h.symm
                               subst this; simpa using hp
                      | cons c l ih =>
                        intro p log' hp h8 h
                        unfold mergeS at h
                        split at h
                        · rename_i h9
                          have hpl : p < x.log.length := by
                            rcases Nat.lt_or_ge p x.log.length with h2 | h2
                            · exact h2
                            · rw [atT_zero (.inr (by omega))] at h9; have := h8 c (by simp); omega
                          have e : ((p : Int) + 1) = ((p + 1 : Nat) : Int) := rfl
                          rw [e] at h
                          have := ih (p := p + 1) (by omega) (fun c hc => h8 c (by simp [hc])) h
                          simp only [List.length_cons]; omega
                        · split at h
                          · cases h
                          · rw [Int.toNat_natCast] at h
                            have : log' = x.log.take p ++ c :: l := by simpa using h.symm
                            subst this
                            simp; omega
                    have := this (by omega) (fun c hc => (rises_mem hcs.2.2.2.2.2 c hc).1) hmg
                    omega)
                · exact h7
              omega
          exact ⟨hx.n, hx.id, hx.term, hx.vote, hlen, hs.1, .inl rfl, fun h => absurd rfl h, ⟨by show 0 ≤ max x.commit _; omega, hcl⟩, Int.le_refl _, hx.since, fun h => absurd h (by show ¬ (0 : Int) = 1; decide), fun h => absurd h (by show ¬ (0 : Int) = 2; decide)⟩
theorem RInv.answered {x : Rn} {m : Ml} (hx : RInv x) (hi : 0 ≤ m.index) : RInv (answeredS x m).1 := by
  unfold answeredS
  split
  · exact hx
  · rename_i h
    have hr : x.role = 2 := by omega
    have hp := hx.peers hr
    have hpm := hp m.fr
    split
    · exact ⟨hx.n, hx.id, hx.term, hx.vote, hx.log, hx.rise, hx.role, hx.lead, hx.commit, hx.waited, hx.since, hx.voted, fun _ k => by
        have := hp k
        show 0 ≤ x.mt k ∧ x.mt k + 1 ≤ upd _ _ _ k ∧ upd _ _ _ k ≤ (x.log.length : Int) + 1
        unfold upd
        split
        · rename_i hk; subst hk; omega
        · exact this⟩
    · have hy : RInv { x with mt := upd x.mt m.fr (max (x.mt m.fr) m.index), nx := upd x.nx m.fr (max (x.mt m.fr) m.index + 1) } :=
        ⟨hx.n, hx.id, hx.term, hx.vote, hx.log, hx.rise, hx.role, hx.lead, hx.commit, hx.waited, hx.since, hx.voted, fun _ k => by
          have := hp k
          show 0 ≤ upd _ _ _ k ∧ upd _ _ _ k + 1 ≤ upd _ _ _ k ∧ upd _ _ _ k ≤ (x.log.length : Int) + 1
          unfold upd
          split
          · rename_i hk; subst hk; omega
          · exact this⟩
      dsimp only
      split
      · exact hy.count
      · exact hy.count
theorem stepS_term {x : Rn} {m : Ml} : m.term ≤ (stepS m x).term := by
  unfold stepS
  split
  · exact Int.le_refl _
  · show m.term ≤ x.term; omega
theorem stepS_idn {x : Rn} {m : Ml} : (stepS m x).id = x.id ∧ (stepS m x).n = x.n := by unfold stepS; split <;> exact ⟨rfl, rfl⟩
theorem RInv.take {x : Rn} {m : Ml} (hx : RInv x) : RInv (takeS x m).1 := by
  unfold takeS
  split
  · rename_i hm
    have h1 := hx.step hm
    have hm2 : mailOk (stepS m x).id (stepS m x).n m := by rw [stepS_idn.1, stepS_idn.2]; exact hm
    have hfr : 1 ≤ m.fr ∧ m.fr ≤ (stepS m x).n := ⟨hm2.1.1, hm2.1.2.1⟩
    split
    · exact h1.asked hfr
    · split
      · exact h1.votes hfr
      · split
        · rename_i h3; exact h1.fed hm2 h3 stepS_term
        · exact h1.answered hm.1.2.2.2.2.2.2.1
  · exact hx
theorem RInv.propose {x : Rn} {d : ByteArray} (hx : RInv x) (hr : x.role = 2) (hl : x.log.length < 10000) (hd : d.size ≤ 4096) : RInv (proposeS x d).1 := ((hx.add hr hl hd).count).feedAll
theorem propose_ok {x : Rn} {d : ByteArray} (h : proposeE x d = 0) : d.size ≠ 0 ∧ d.size ≤ 4096 ∧ x.role = 2 ∧ x.log.length < 10000 := by
  unfold proposeE at h
  split at h
  · cases h
  · split at h
    · cases h
    · split at h
      · cases h
      · omega
def Kin (x y : Rn) : Prop := y.id = x.id ∧ y.n = x.n ∧ (y.waited ≤ x.waited ∨ y.waited ≤ 0)
theorem Kin.rfl' {x : Rn} : Kin x x := ⟨rfl, rfl, .inl (Int.le_refl _)⟩
theorem Kin.trans {x y z : Rn} (h : Kin x y) (k : Kin y z) : Kin x z := ⟨k.1.trans h.1, k.2.1.trans h.2.1, by rcases h.2.2 with a | a <;> rcases k.2.2 with b | b <;> omega⟩
theorem Kin.more {x y : Rn} (h : Kin x y) : y.id = x.id ∧ y.n = x.n ∧ (y.waited ≤ x.waited + 1 ∨ y.waited ≤ 0) := ⟨h.1, h.2.1, by rcases h.2.2 with a | a; exact .inl (by omega); exact .inr a⟩
theorem Kin.lead (x : Rn) : Kin x (leadS x).1 := by
 unfold leadS
 split
 ·split <;> exact ⟨rfl, rfl, .inl (Int.le_refl _)⟩
 ·exact Kin.rfl'
theorem Kin.step (x : Rn) (m : Ml) : Kin x (stepS m x) := by
 unfold stepS
 split
 ·exact ⟨rfl, rfl, .inl (Int.le_refl _)⟩
 ·exact Kin.rfl'
theorem Kin.fed (x : Rn) (m : Ml) : Kin x (fedS x m).1 := by
 unfold fedS
 split
 ·exact Kin.rfl'
 ·split
  ·exact Kin.rfl'
  ·split
   ·exact ⟨rfl, rfl, .inr (Int.le_refl _)⟩
   ·split
    ·exact ⟨rfl, rfl, .inr (Int.le_refl _)⟩
    ·exact ⟨rfl, rfl, .inr (Int.le_refl _)⟩
theorem Kin.answered (x : Rn) (m : Ml) : Kin x (answeredS x m).1 := by
 unfold answeredS
 split
 ·exact Kin.rfl'
 ·split
  ·exact ⟨rfl, rfl, .inl (Int.le_refl _)⟩
  ·dsimp only
   split <;> exact ⟨rfl, rfl, .inl (Int.le_refl _)⟩
theorem Kin.take (x : Rn) (m : Ml) : Kin x (takeS x m).1 := by
 unfold takeS
 split
 ·split
  ·refine (Kin.step x m).trans ?_
   unfold askedS
   show Kin _ (if voteOk (stepS m x) m then { stepS m x with vote := m.fr, waited := 0 } else stepS m x)
   split
   ·exact ⟨rfl, rfl, .inr (Int.le_refl _)⟩
   ·exact Kin.rfl'
  ·split
   ·refine (Kin.step x m).trans ?_
    unfold votesS
    split
    ·exact Kin.rfl'
    ·exact (show Kin (stepS m x) (votedS m.fr (stepS m x)) from ⟨rfl, rfl, .inl (Int.le_refl _)⟩).trans (Kin.lead _)
   ·split
    ·exact (Kin.step x m).trans (Kin.fed _ _)
    ·exact (Kin.step x m).trans (Kin.answered _ _)
 ·exact Kin.rfl'
theorem Kin.propose (x : Rn) (d : ByteArray) : Kin x (proposeS x d).1 := ⟨rfl, rfl, .inl (Int.le_refl _)⟩
theorem tick_id (x : Rn) : (tickS x).1.id = x.id ∧ (tickS x).1.n = x.n ∧ ((tickS x).1.waited ≤ x.waited + 1 ∨ (tickS x).1.waited ≤ 0) := by
 unfold tickS
 split
 ·split
  ·exact ⟨rfl, rfl, .inl (by show x.waited ≤ x.waited + 1; omega)⟩
  ·exact ⟨rfl, rfl, .inl (by show x.waited ≤ x.waited + 1; omega)⟩
 ·split
  ·exact ⟨rfl, rfl, .inl (Int.le_refl _)⟩
  ·split
   ·have h := Kin.lead (runS x)
    refine ⟨h.1, h.2.1, .inr ?_⟩
    rcases h.2.2 with a | a
    ·exact a
    ·exact a
   ·exact ⟨rfl, rfl, .inr (Int.le_refl _)⟩
theorem RInv.stable {x : Rn} (hx : RInv x) : 1 ≤ x.n ∧ x.n ≤ 5 ∧ 1 ≤ x.id ∧ x.id ≤ x.n ∧ mayS x.n x.term x.vote x.log :=
 ⟨hx.n.1, hx.n.2, hx.id.1, hx.id.2, hx.term.1, hx.term.2, hx.vote.1, hx.vote.2, hx.log, hx.rise⟩
end Go.Raft
end
