/-
  Layer 4: the document's parts in a row, and what its two stacks hold: plain words.
-/
import Derived.Test.YtoeglkkmjmhmiaaDoorExprMachB
set_option linter.unusedVariables false
set_option linter.unusedSimpArgs false
namespace Go.Expr

structure Nd where
  op : List UInt8
  n : Int
  l : Int
  r : Int
def sgW (neg : Bool) : UInt8 := if neg then 126 else 33
def Wt.wb : Wt → List UInt8
  | .sg neg => [sgW neg]
  | .op o => o.bytes
  | .lp => [40]
def nbin : List Wt → Nat
  | [] => 0
  | .op _ :: W => nbin W + 1
  | _ :: W => nbin W
def sumT : List Tr → Nat
  | [] => 0
  | x :: V => sizeT x + sumT V
def Stk (T : List Tr) : List Nat → List Tr → Prop
  | [], [] => True
  | i :: l, x :: V => T[i]? = some x ∧ Stk T l V
  | _, _ => False
inductive NdOk (T : List Tr) (i : Nat) : Nd → Tr → Prop
  | num (k : Nat) (h : k < 1000000000000000000) : NdOk T i ⟨[48], k, 0, 0⟩ (.num k)
  | nm (c : UInt8) (h : NmP c) : NdOk T i ⟨[c], 0, 0, 0⟩ (.nm c)
  | sg (neg : Bool) (x : Tr) (l : Nat) (hl : l < i) (hx : T[l]? = some x) : NdOk T i ⟨[sgW neg], 0, l, 0⟩ (.sg neg x)
  | bn (o : Bo) (x y : Tr) (l r : Nat) (hl : l < i) (hr : r < i) (hx : T[l]? = some x) (hy : T[r]? = some y) : NdOk T i ⟨o.bytes, 0, l, r⟩ (.bn o x y)
structure Nds (L : List Nd) (T : List Tr) : Prop where
  len : L.length = T.length
  ok : ∀ i d t, L[i]? = some d → T[i]? = some t → NdOk T i d t
theorem get_app {α : Type} {T U : List α} {i : Nat} {x : α} (h : T[i]? = some x) : (T ++ U)[i]? = some x := by
  have hi := (List.getElem?_eq_some_iff.1 h).1
  rw [List.getElem?_append_left hi, h]
theorem NdOk.app {T U : List Tr} {i : Nat} {d : Nd} {t : Tr} (h : NdOk T i d t) : NdOk (T ++ U) i d t := by
  cases h with
  | num k h => exact .num k h
  | nm c h => exact .nm c h
  | sg neg x l hl hx => exact .sg neg x l hl (get_app hx)
  | bn o x y l r hl hr hx hy => exact .bn o x y l r hl hr (get_app hx) (get_app hy)
theorem Nds.nil : Nds [] [] := ⟨rfl, fun i d t h => by simp at h⟩
theorem Nds.snoc {L : List Nd} {T : List Tr} {d : Nd} {t : Tr} (h : Nds L T) (hd : NdOk T T.length d t) : Nds (L ++ [d]) (T ++ [t]) := by
  refine ⟨by simp [h.len], fun i e u he hu => ?_⟩
  have hl := h.len
  by_cases hi : i < L.length
  · rw [List.getElem?_append_left hi] at he
    rw [List.getElem?_append_left (by omega)] at hu
    exact (h.ok i e u he hu).app
  · have hi2 : i < (L ++ [d]).length := (List.getElem?_eq_some_iff.1 he).1
    rw [List.length_append, List.length_singleton] at hi2
    have hi3 : i = L.length := by omega
    subst hi3
    rw [List.getElem?_append_right (Nat.le_refl _), Nat.sub_self] at he
    rw [List.getElem?_append_right (by omega), show L.length - T.length = 0 by omega] at hu
    simp at he hu
    subst he; subst hu
    rw [hl]
    exact hd.app
theorem Stk.app {T U : List Tr} : ∀ {l : List Nat} {V : List Tr}, Stk T l V → Stk (T ++ U) l V
  | [], [], _ => trivial
  | i :: l, x :: V, h => ⟨get_app h.1, h.2.app⟩
  | [], _ :: _, h => h.elim
  | _ :: _, [], h => h.elim
theorem Stk.len {T : List Tr} : ∀ {l : List Nat} {V : List Tr}, Stk T l V → l.length = V.length
  | [], [], _ => rfl
  | i :: l, x :: V, h => by simp only [List.length_cons, h.2.len]
  | [], _ :: _, h => h.elim
  | _ :: _, [], h => h.elim
theorem Stk.push {T : List Tr} {t : Tr} {l : List Nat} {V : List Tr} (h : Stk T l V) : Stk (T ++ [t]) (T.length :: l) (t :: V) := ⟨by simp, h.app⟩
theorem Stk.lt {T : List Tr} {i : Nat} {l : List Nat} {x : Tr} {V : List Tr} (h : Stk T (i :: l) (x :: V)) : i < T.length := (List.getElem?_eq_some_iff.1 h.1).1
theorem sizeT_pos : ∀ x : Tr, 1 ≤ sizeT x
  | .num _ => Nat.le_refl _
  | .nm _ => Nat.le_refl _
  | .sg _ x => by simp [sizeT]
  | .bn _ x y => by simp [sizeT]
theorem len_sum : ∀ V : List Tr, V.length ≤ sumT V
  | [] => Nat.le_refl _
  | x :: V => by have := sizeT_pos x; have := len_sum V; simp only [List.length_cons, sumT]; omega
theorem nbin_le : ∀ W : List Wt, nbin W ≤ W.length
  | [] => Nat.le_refl _
  | .op _ :: W => by have := nbin_le W; simp only [nbin, List.length_cons]; omega
  | .sg _ :: W => by have := nbin_le W; simp only [nbin, List.length_cons]; omega
  | .lp :: W => by have := nbin_le W; simp only [nbin, List.length_cons]; omega
/-- the operator that waits last is done -/
inductive Ap : List Wt → List Tr → List Wt → List Tr → Prop
  | sg {neg W x V} : Ap (.sg neg :: W) (x :: V) W (.sg neg x :: V)
  | op {o W x y V} : Ap (.op o :: W) (y :: x :: V) W (.bn o x y :: V)
theorem Ap.facts {W W' : List Wt} {V V' : List Tr} (h : Ap W V W' V') (hn : V.length = nbin W + 1) : V'.length = nbin W' + 1 ∧ sumT V' = sumT V + 1 ∧ W.length = W'.length + 1 := by
  cases h with
  | sg => simp only [List.length_cons, nbin, sumT, sizeT] at hn ⊢; exact ⟨by omega, by omega, trivial⟩
  | op => simp only [List.length_cons, nbin, sumT, sizeT] at hn ⊢; exact ⟨by omega, by omega, trivial⟩
/-- what waits last, and whether it is done now -/
def topGo (k : Nat) : List Wt → Bool
  | [] => false
  | .lp :: _ => false
  | .sg _ :: _ => decide (k ≤ 6)
  | .op o :: _ => decide (k ≤ o.rank)
theorem down_stop {k : Nat} {W : List Wt} {V : List Tr} (h : topGo k W = false) : downM k W V = (V, W) := by
  match W, h with
  | [], _ => rfl
  | .lp :: _, _ => rfl
  | .sg _ :: _, h => unfold downM; rw [if_neg (by simpa [topGo] using h)]
  | .op _ :: _, h => unfold downM; rw [if_neg (by simpa [topGo] using h)]
theorem down_go {k : Nat} {W : List Wt} {V : List Tr} (h : topGo k W = true) (hn : V.length = nbin W + 1) : ∃ W' V', Ap W V W' V' ∧ downM k W V = downM k W' V' := by
  match W, h with
  | .sg neg :: W, h =>
    match V, hn with
    | x :: V, hn => exact ⟨W, .sg neg x :: V, .sg, by conv => lhs; unfold downM; rw [if_pos (by simpa [topGo] using h)]⟩
  | .op o :: W, h =>
    match V, hn with
    | y :: x :: V, hn => exact ⟨W, .bn o x y :: V, .op, by conv => lhs; unfold downM; rw [if_pos (by simpa [topGo] using h)]⟩
    | [x], hn => simp [nbin] at hn
/-- done as far as it goes: what is counted stays -/
theorem down_facts {k : Nat} : ∀ (n : Nat) {W : List Wt} {V : List Tr}, W.length = n → V.length = nbin W + 1 → (downM k W V).1.length = nbin (downM k W V).2 + 1 ∧ sumT (downM k W V).1 + (downM k W V).2.length = sumT V + W.length
  | n, W, V, hl, hn => by
    cases h : topGo k W with
    | false => rw [down_stop h]; exact ⟨hn, rfl⟩
    | true =>
      obtain ⟨W', V', ha, hd⟩ := down_go h hn
      obtain ⟨f1, f2, f3⟩ := ha.facts hn
      have hlt : W'.length < n := by omega
      obtain ⟨g1, g2⟩ := down_facts W'.length (W := W') (V := V') rfl f1
      rw [hd]
      exact ⟨g1, by omega⟩
  termination_by n => n
/-- what is counted of both stacks at a word -/
structure Bal (wants : Bool) (V : List Tr) (W : List Wt) (k : Nat) : Prop where
  bin : V.length = nbin W + if wants then 0 else 1
  sum : sumT V + W.length + k ≤ 200
theorem Bal.le {wants : Bool} {V : List Tr} {W : List Wt} {k j : Nat} (h : Bal wants V W k) (hj : j ≤ k) : Bal wants V W j := ⟨h.bin, by have := h.sum; omega⟩
theorem paren_num {w : List UInt8} (h : numB w = true) : parenB w = false := by
  match w, h with
  | c :: u, h =>
    unfold parenB
    have h' : isDig c = true := h
    have h1 : c ≠ 40 := fun e => by rw [e] at h'; exact absurd h' (by decide)
    have h2 : c ≠ 41 := fun e => by rw [e] at h'; exact absurd h' (by decide)
    simp [h1, h2]
theorem bal_take {w : List UInt8} {wants : Bool} {V V' : List Tr} {W W' : List Wt} {k : Nat} (h : TakeR w wants V W V' W') (hb : Bal wants V W (k + w.length)) : Bal (wantsN w wants) V' W' k := by
  obtain ⟨b1, b2⟩ := hb
  cases h with
  | num h0 ha hl =>
    obtain ⟨g1, g2, g3⟩ := dig_paren h0 ha
    have e1 : wantsN w true = false := by unfold wantsN; rw [paren_num g3, g3]; rfl
    have hlen : 1 ≤ w.length := by cases w with | nil => exact absurd rfl h0 | cons c u => simp
    rw [e1]
    simp only [if_true] at b1
    exact ⟨by simp only [List.length_cons]; simp; omega, by simp only [sumT, sizeT]; omega⟩
  | nm hc =>
    obtain ⟨_, _, _, _, f5, _⟩ := nm_facts hc
    rw [f5]
    simp only [if_true] at b1
    exact ⟨by simp only [List.length_cons]; simp; omega, by simp only [sumT, sizeT, List.length_cons, List.length_nil] at b2 ⊢; omega⟩
  | lp => exact ⟨by simpa [nbin, wantsN, parenB] using b1, by simp only [List.length_cons, List.length_nil] at b2 ⊢; omega⟩
  | neg => exact ⟨by rw [show wantsN [45] true = true from by decide]; simpa [nbin] using b1, by simp only [List.length_cons, List.length_nil] at b2 ⊢; omega⟩
  | not => exact ⟨by rw [show wantsN [33] true = true from by decide]; simpa [nbin] using b1, by simp only [List.length_cons, List.length_nil] at b2 ⊢; omega⟩
  | op o =>
    obtain ⟨f1, f2, f3, f4⟩ := op_facts o
    have hlen : 1 ≤ o.bytes.length := by cases o <;> decide
    have b1' : V.length = nbin W + 1 := by simpa using b1
    obtain ⟨d1, d2⟩ := down_facts (k := o.rank) W.length (V := V) rfl b1'
    rw [f3]
    exact ⟨by simp only [nbin]; simpa using d1, by simp only [List.length_cons]; omega⟩
  | rp hd =>
    have b1' : V.length = nbin W + 1 := by simpa using b1
    obtain ⟨d1, d2⟩ := down_facts (k := 1) W.length (V := V) rfl b1'
    rw [hd] at d1 d2
    simp only [nbin, List.length_cons, List.length_nil] at d1 d2 b2
    exact ⟨by simpa [wantsN, parenB, numB, nameB, isDig] using d1, by omega⟩
end Go.Expr
