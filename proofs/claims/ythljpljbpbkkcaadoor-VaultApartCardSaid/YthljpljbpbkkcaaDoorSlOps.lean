/-
  The operations of a region over the heap logic: values (Val), and the rules for what writes or makes memory. Plain theorems over any program.
-/
import Derived.Test.YthljpljbpbkkcaaDoorSlCore
set_option linter.unusedVariables false
set_option linter.unusedSimpArgs false
namespace Go.Sl
open Go.RowKit

/-! ### Chunks: a row of cells, as a list -/
def NF (fz : Nat × Nat) (n : Nat) : Prop := fz.1 = fz.2 ∨ n ≤ fz.1
theorem NF.at_ {fz : Nat × Nat} {n : Nat} (h : NF fz n) : ∀ i, i < n → (decide (fz.1 ≤ i) && decide (i < fz.2)) = false := by
  intro i hi
  rcases h with h | h
  · rw [h]; by_cases h2 : i < fz.2 <;> simp [h2]
  · simp; omega
/-- Block b holds these cells (none of them frozen). -/
def cel (b : Nat) (vs : List Value) (e : TypeId) : HProp := fun h => ∃ fz, NF fz vs.length ∧ pt b (.cells vs.toArray e fz) h
def splice (vs : List Value) (o : Nat) (news : List Value) : List Value := vs.take o ++ news ++ vs.drop (o + news.length)
theorem splice_length {vs : List Value} {o : Nat} {news : List Value} (h : o + news.length ≤ vs.length) : (splice vs o news).length = vs.length := by
  simp [splice]; omega
/-- The world is another in block b alone. -/
structure Turned (w w' : World) (b : Nat) (o' : Obj) : Prop where
  os : w'.os = w.os
  tape : w'.tape = w.tape
  output : w'.output = w.output
  size : w'.heap.size = w.heap.size
  here : w'.heap[b]? = some o'
  else_ : ∀ k, k ≠ b → w'.heap[k]? = w.heap[k]?
theorem Own.turned {w0 w w' : World} {b : Nat} {o o' : Obj} {l : List HProp} (H : Own w0 (pt b o :: l) w) (h : Turned w w' b o') : Own w0 (pt b o' :: l) w' :=
  H.turn h.os h.tape h.output h.size h.here h.else_
theorem Own.cel {w0 w : World} {b : Nat} {vs : List Value} {e : TypeId} {l : List HProp} (H : Own w0 (cel b vs e :: l) w) : ∃ fz, NF fz vs.length ∧ Own w0 (pt b (.cells vs.toArray e fz) :: l) w := by
  obtain ⟨hb, h, ⟨h1, h2, ⟨fz, hf, a⟩, a2, d, x⟩, hw⟩ := H
  exact ⟨fz, hf, hb, h, ⟨h1, h2, a, a2, d, x⟩, hw⟩
theorem Own.intro_cel {w0 w : World} {b : Nat} {vs : List Value} {e : TypeId} {fz : Nat × Nat} {l : List HProp} (hf : NF fz vs.length) (H : Own w0 (pt b (.cells vs.toArray e fz) :: l) w) : Own w0 (Sl.cel b vs e :: l) w :=
  H.head fun _ h => ⟨fz, hf, h⟩
theorem NF.zero (n : Nat) : NF (0, 0) n := .inl rfl
theorem setCell_turned {w : World} {b off : Nat} {vs : List Value} {e : TypeId} {fz : Nat × Nat} (h : w.heap[b]? = some (.cells vs.toArray e fz)) (v : Value) :
    Turned w (w.setCell ⟨b, off, none⟩ v) b (.cells (vs.set off v).toArray e fz) := by
  refine ⟨rfl, rfl, rfl, by simp [World.setCell], ?_, fun k hk => Below.heap_setCell _ _ _ _ hk⟩
  simp [World.setCell, Array.getElem?_modify, h]
theorem Turned.trans {w w1 w2 : World} {b : Nat} {o1 o2 : Obj} (h : Turned w w1 b o1) (k : Turned w1 w2 b o2) : Turned w w2 b o2 :=
  ⟨k.os.trans h.os, k.tape.trans h.tape, k.output.trans h.output, k.size.trans h.size, k.here, fun x hx => (k.else_ x hx).trans (h.else_ x hx)⟩
theorem cell_cel {w : World} {b : Nat} {vs : List Value} {e : TypeId} {fz : Nat × Nat} (h : w.heap[b]? = some (.cells vs.toArray e fz)) (i : Nat) : w.cell? ⟨b, i, none⟩ = vs[i]? := by
  simp [World.cell?, h]
theorem frozen_cel {w : World} {b : Nat} {vs : List Value} {e : TypeId} {fz : Nat × Nat} (h : w.heap[b]? = some (.cells vs.toArray e fz)) (hf : NF fz vs.length) (i : Nat) (hi : i < vs.length) : w.frozen? ⟨b, i, none⟩ = false := by
  obtain ⟨lo, hi'⟩ := fz
  simpa [World.frozen?, h] using hf.at_ i hi
theorem run_store_cel {P : Program} {w : World} {b off : Nat} {vs : List Value} {e : TypeId} {fz : Nat × Nat} (h : w.heap[b]? = some (.cells vs.toArray e fz)) (hf : NF fz vs.length) (ho : off < vs.length) {v : Value} (hv : v.oneCell' = true) :
    (store ⟨b, off, none⟩ v).run P w = .ok () (w.setCell ⟨b, off, none⟩ v) := by
  rw [run_store P w _ v _ hv, cell_cel h, frozen_cel h hf off ho]
  simp [List.getElem?_eq_getElem ho]
theorem run_storeCells_cel {P : Program} {b o : Nat} {e : TypeId} {fz : Nat × Nat} : ∀ (news : List Value) (i : Nat) (vs : List Value) (w : World), w.heap[b]? = some (.cells vs.toArray e fz) → NF fz vs.length →
    o + i + news.length ≤ vs.length → (∀ v ∈ news, v.oneCell' = true) → ∃ w', (storeCells ⟨b, o, none⟩ news i).run P w = .ok () w' ∧ Turned w w' b (.cells (splice vs (o + i) news).toArray e fz)
  | [], i, vs, w, h, _, _, _ => ⟨w, rfl, rfl, rfl, rfl, rfl, by simpa [splice] using h, fun _ _ => rfl⟩
  | v :: r, i, vs, w, h, hf, hl, h1 => by
    simp only [List.length_cons] at hl
    have hadd : (⟨b, o, none⟩ : Addr).add i = ⟨b, o + i, none⟩ := by unfold Addr.add; split <;> simp_all
    have hst : (store ((⟨b, o, none⟩ : Addr).add i) v).run P w = .ok () (w.setCell ⟨b, o + i, none⟩ v) := by
      rw [hadd]; exact run_store_cel h hf (Nat.lt_of_lt_of_le (by omega) hl) (h1 v (by simp))
    have ht := setCell_turned (off := o + i) h v
    obtain ⟨w', hr, hw'⟩ := run_storeCells_cel (P := P) (o := o) r (i + 1) (vs.set (o + i) v) _ ht.here (by simpa using hf) (by simp; omega) (fun x hx => h1 x (by simp [hx]))
    refine ⟨w', by simp only [storeCells, Sem.run_bind, hst, Result.andThen_ok, hr], ?_⟩
    have he : splice (vs.set (o + i) v) (o + (i + 1)) r = splice vs (o + i) (v :: r) := by
      unfold splice
      apply List.ext_getElem?
      intro j
      simp only [List.getElem?_append, List.length_append, List.length_take, List.length_set, List.getElem?_take, List.getElem?_drop, List.getElem?_set, List.length_cons, List.getElem?_cons]
      repeat' split
      all_goals (try omega)
      all_goals (try rfl)
      all_goals (try (congr 1; omega))
    rw [he] at hw'
    exact ht.trans hw'

/-! ### Reading -/
/-- From this base on these values stand. -/
def Rd (w : World) (base : Option Addr) (vs : List Value) : Prop := ∀ j v, vs[j]? = some v → ∃ a, base = some a ∧ w.cell? (a.add j) = some v
/-- In every world that bears A. -/
def RdC (w0 : World) (A : List HProp) (base : Option Addr) (vs : List Value) : Prop := ∀ w, Own w0 A w → Rd w base vs
/-- In every world that bears A this cell holds v. -/
def CellC (w0 : World) (A : List HProp) (a : Option Addr) (v : Value) : Prop := ∀ w, Own w0 A w → ∃ ad, a = some ad ∧ w.cell? ad = some v
theorem add_plain (g j : Nat) : (⟨g, 0, none⟩ : Addr).add j = ⟨g, j, none⟩ := by unfold Addr.add; split <;> simp_all
theorem add_at (g o j : Nat) : (⟨g, o, none⟩ : Addr).add j = ⟨g, o + j, none⟩ := by unfold Addr.add; split <;> simp_all
theorem add_add (a : Addr) (j k : Nat) : (a.add j).add k = a.add (j + k) := by
  unfold Addr.add
  by_cases hj : j = 0 <;> by_cases hk : k = 0 <;> simp [hj, hk] <;> omega
section
variable {w0 w : World} {A A' : List HProp} {base : Option Addr} {vs : List Value} {X : HProp}
theorem RdC.mono (h : RdC w0 A base vs) (hA : ∀ w, Own w0 A' w → Own w0 A w) : RdC w0 A' base vs := fun w hw => h w (hA w hw)
theorem RdC.cons (h : RdC w0 A base vs) : RdC w0 (X :: A) base vs := fun w hw => h w hw.tail
theorem RdC.nil : RdC w0 A base [] := fun w _ j v h => by simp at h
theorem RdC.drop (h : RdC w0 A base vs) (k : Nat) : RdC w0 A (base.map (·.add k)) (vs.drop k) := fun w hw j v hv => by
  rw [List.getElem?_drop] at hv
  obtain ⟨a, ha, hc⟩ := h w hw _ _ hv
  exact ⟨a.add k, by simp [ha], by rw [add_add]; exact hc⟩
theorem RdC.take (h : RdC w0 A base vs) (k : Nat) : RdC w0 A base (vs.take k) := fun w hw j v hv => by
  rw [List.getElem?_take] at hv
  split at hv
  · exact h w hw _ _ hv
  · cases hv
theorem RdC.cell (h : RdC w0 A base vs) {j : Nat} {v : Value} (hj : vs[j]? = some v) : CellC w0 A (base.map (·.add j)) v := fun w hw => by
  obtain ⟨a, ha, hc⟩ := h w hw j v hj
  exact ⟨a.add j, by simp [ha], hc⟩
theorem CellC.of_cel {b : Nat} {e : TypeId} {i : Nat} {v : Value} (hm : cel b vs e ∈ A) (hi : vs[i]? = some v) : CellC w0 A (some ⟨b, i, none⟩) v := fun w hw => by
  obtain ⟨R, h⟩ := hw.mem hm
  obtain ⟨fz, _, h⟩ := h.cel
  exact ⟨_, rfl, by rw [cell_cel h.heap.1]; exact hi⟩
theorem RdC.of_cel {b : Nat} {e : TypeId} {ws : List Value} (o : Nat) (hm : cel b ws e ∈ A) (hp : vs <+: ws.drop o) : RdC w0 A (some ⟨b, o, none⟩) vs := fun w hw j v hv => by
  obtain ⟨R, h⟩ := hw.mem hm
  obtain ⟨fz, _, h⟩ := h.cel
  refine ⟨_, rfl, ?_⟩
  rw [add_at, cell_cel h.heap.1]
  obtain ⟨t, ht⟩ := hp
  have hl : j < vs.length := (List.getElem?_eq_some_iff.1 hv).1
  have : (ws.drop o)[j]? = some v := by rw [← ht, List.getElem?_append_left hl]; exact hv
  rwa [List.getElem?_drop] at this
/-- Old memory. -/
theorem RdC.old (h : Rd w0 base vs) : RdC w0 A base vs := fun w hw j v hv => by
  obtain ⟨a, ha, hc⟩ := h j v hv
  exact ⟨a, ha, (hw.below.cell (World.block_lt_of_cell? w0 _ hc)).trans hc⟩
theorem CellC.old {a : Addr} {v : Value} (h : w0.cell? a = some v) : CellC w0 A (some a) v := fun w hw => ⟨a, rfl, (hw.below.cell (World.block_lt_of_cell? w0 _ h)).trans h⟩
theorem CellC.cons {a : Option Addr} {v : Value} (h : CellC w0 A a v) : CellC w0 (X :: A) a v := fun w hw => h w hw.tail
theorem CellC.mono {a : Option Addr} {v : Value} (h : CellC w0 A a v) (hA : ∀ w, Own w0 A' w → Own w0 A w) : CellC w0 A' a v := fun w hw => h w (hA w hw)
end

/-! ### Types of the program -/
def plainT (P : Program) (t : TypeId) : Bool := match P.underlying t with
  | some (.struct _) | some (.array ..) | none => false
  | _ => true
theorem run_isAgg_of {P : Program} {t : TypeId} (h : plainT P t = true) (w : World) : (isAgg t).run P w = .ok false w := by
  unfold plainT at h
  unfold isAgg
  cases hd : P.underlying t with
  | none => simp [hd] at h
  | some d => cases d <;> simp [hd] at h <;> simp [run_underlying hd]
def aggT (P : Program) (t : TypeId) : Bool := match P.underlying t with
  | some (.struct _) | some (.array ..) => true
  | _ => false
theorem run_isAgg_agg {P : Program} {t : TypeId} (h : aggT P t = true) (w : World) : (isAgg t).run P w = .ok true w := by
  unfold aggT at h
  unfold isAgg
  cases hd : P.underlying t with
  | none => simp [hd] at h
  | some d => cases d <;> simp [hd] at h <;> simp [run_underlying hd]
def sizeT (P : Program) (t : TypeId) (s : Nat) : Bool := match P.info? t with
  | some i => Nat.beq i.size s
  | none => false
theorem run_sizeOf_of {P : Program} {t : TypeId} {s : Nat} (h : sizeT P t s = true) (w : World) : (sizeOf t).run P w = .ok s w := by
  unfold sizeT at h
  cases hd : P.info? t with
  | none => simp [hd] at h
  | some i => simp [hd] at h; simp [sizeOf, typeInfo, hd, h]
def bytesT (P : Program) (t : TypeId) (s : Nat) : Bool := match P.info? t with
  | some i => Nat.beq i.bytes s
  | none => false
/-- Field f of struct s lies off cells behind its beginning. -/
def fieldT (P : Program) (s f off : Nat) : Bool := match P.underlying s with
  | some (.struct fs) => match fs[f]? with
    | some x => Nat.beq x.offset off && (match P.info? x.type with | some i => !(Nat.beq i.size 0) | none => false)
    | none => false
  | _ => false
theorem run_fieldAt_of {P : Program} {s f off : Nat} (h : fieldT P s f off = true) (a : Addr) (w : World) : (Instr.fieldAt s (.pointer (some a)) f).run P w = .ok (.pointer (some (a.add off))) w := by
  unfold fieldT at h
  split at h
  · rename_i fs hd
    split at h
    · rename_i x hx
      rw [Bool.and_eq_true] at h
      obtain ⟨h1, h2⟩ := h
      have h1 := Nat.eq_of_beq_eq_true h1
      cases hi : P.info? x.type with
      | none => rw [hi] at h2; cases h2
      | some i =>
        rw [hi] at h2
        have h3 : ¬ i.size = 0 := by
          intro h0; simp [h0] at h2
        simp [Instr.fieldAt, run_underlying hd, hx, Instr.sureAddr, fieldPlace, sizeOf, typeInfo, hi, h3, h1]
    · cases h
  · cases h
def callT (P : Program) (f : FuncId) : Bool := match P.funcs[f]? with
  | some fn => !(fn.name == "runtime.NumGoroutine") && !fn.body.isNone
  | none => false
theorem run_callFunc_of {P : Program} {f : FuncId} (h : callT P f = true) (args : Array Value) (w : World) : (callFunc f args).run P w = .ok (.enter f args) w := by
  unfold callT at h
  split at h
  · rename_i fn hf
    simp only [Bool.and_eq_true, Bool.not_eq_true'] at h
    simp only [callFunc, Sem.run_bind, run_program, Result.andThen_ok, hf, h.1, h.2, Bool.false_eq_true, if_false]
    rfl
  · cases h

/-! ### Values -/
section
variable {P : Program} {w0 : World} {n : Nat} {ρ : Env} {A : List HProp} {d : Option Tmp} {T : TypeId} {pos : String} {af : Array Edge} {g : Option (Nat × Bool)}
theorem vmv {x : Operand} : Val P w0 n ρ A ⟨d, .move x, T, pos, af, g⟩ (ev n ρ x) := fun _ _ => rfl
theorem vas {x : Operand} : Val P w0 n ρ A ⟨d, .assign x, T, pos, af, g⟩ (ev n ρ x) := fun _ _ => rfl
theorem vmI {x : Operand} {k : IntKind} {a : Int} (hx : ev n ρ x = .int k a) : Val P w0 n ρ A ⟨d, .move x, T, pos, af, g⟩ (.int k a) := hx ▸ vmv
theorem vmS {x : Operand} {a : Option Addr} {l c : Nat} (hx : ev n ρ x = .slice a l c) : Val P w0 n ρ A ⟨d, .move x, T, pos, af, g⟩ (.slice a l c) := hx ▸ vmv
theorem vmP {x : Operand} {a : Option Addr} (hx : ev n ρ x = .pointer a) : Val P w0 n ρ A ⟨d, .move x, T, pos, af, g⟩ (.pointer a) := hx ▸ vmv
theorem vmB {x : Operand} {b : Bool} (hx : ev n ρ x = .bool b) : Val P w0 n ρ A ⟨d, .move x, T, pos, af, g⟩ (.bool b) := hx ▸ vmv
theorem vmT {x : Operand} {s : ByteArray} (hx : ev n ρ x = .string s) : Val P w0 n ρ A ⟨d, .move x, T, pos, af, g⟩ (.string s) := hx ▸ vmv
theorem vmM {x : Operand} {m : Option Nat} (hx : ev n ρ x = .map m) : Val P w0 n ρ A ⟨d, .move x, T, pos, af, g⟩ (.map m) := hx ▸ vmv
theorem vmA {x : Operand} {c : Array Value} (hx : ev n ρ x = .agg c) : Val P w0 n ρ A ⟨d, .move x, T, pos, af, g⟩ (.agg c) := hx ▸ vmv
theorem vmF {x : Operand} {f : Fn} {a c : Array Value} (hx : ev n ρ x = .func f a c) : Val P w0 n ρ A ⟨d, .move x, T, pos, af, g⟩ (.func f a c) := hx ▸ vmv
theorem vaI {x : Operand} {k : IntKind} {a : Int} (hx : ev n ρ x = .int k a) : Val P w0 n ρ A ⟨d, .assign x, T, pos, af, g⟩ (.int k a) := hx ▸ vas
theorem vaS {x : Operand} {a : Option Addr} {l c : Nat} (hx : ev n ρ x = .slice a l c) : Val P w0 n ρ A ⟨d, .assign x, T, pos, af, g⟩ (.slice a l c) := hx ▸ vas
theorem vaP {x : Operand} {a : Option Addr} (hx : ev n ρ x = .pointer a) : Val P w0 n ρ A ⟨d, .assign x, T, pos, af, g⟩ (.pointer a) := hx ▸ vas
theorem vaB {x : Operand} {b : Bool} (hx : ev n ρ x = .bool b) : Val P w0 n ρ A ⟨d, .assign x, T, pos, af, g⟩ (.bool b) := hx ▸ vas
theorem vaT {x : Operand} {s : ByteArray} (hx : ev n ρ x = .string s) : Val P w0 n ρ A ⟨d, .assign x, T, pos, af, g⟩ (.string s) := hx ▸ vas
theorem vaM {x : Operand} {m : Option Nat} (hx : ev n ρ x = .map m) : Val P w0 n ρ A ⟨d, .assign x, T, pos, af, g⟩ (.map m) := hx ▸ vas
theorem vaA {x : Operand} {c : Array Value} (hx : ev n ρ x = .agg c) : Val P w0 n ρ A ⟨d, .assign x, T, pos, af, g⟩ (.agg c) := hx ▸ vas
theorem vaF {x : Operand} {f : Fn} {a c : Array Value} (hx : ev n ρ x = .func f a c) : Val P w0 n ρ A ⟨d, .assign x, T, pos, af, g⟩ (.func f a c) := hx ▸ vas
theorem vlen {t e : TypeId} {x : Operand} {a : Option Addr} {l c : Nat} (ht : P.underlying t = some (.slice e)) (hx : ev n ρ x = .slice a l c) :
    Val P w0 n ρ A ⟨d, .call ⟨.builtin .len, #[x], #[t]⟩, T, pos, af, g⟩ (.int .i64 l) := fun w _ => by
  simp [execOp, resolve, invoke, builtin, Builtin.len_, run_underlying ht, hx, goInt]
theorem vlens {t : TypeId} {x : Operand} {s : ByteArray} (ht : P.underlying t = some .string) (hx : ev n ρ x = .string s) :
    Val P w0 n ρ A ⟨d, .call ⟨.builtin .len, #[x], #[t]⟩, T, pos, af, g⟩ (.int .i64 s.size) := fun w _ => by
  simp [execOp, resolve, invoke, builtin, Builtin.len_, run_underlying ht, hx, goInt]
theorem vmin {x y : Operand} {ts : Array TypeId} {k : IntKind} {a b : Int} (hx : ev n ρ x = .int k a) (hy : ev n ρ y = .int k b) :
    Val P w0 n ρ A ⟨d, .call ⟨.builtin .min, #[x, y], ts⟩, T, pos, af, g⟩ (.int k (min a b)) := fun w _ => by
  simp only [execOp, resolve, invoke, builtin, Builtin.min_, Builtin.min2, hx, hy, List.map_toArray, List.map_cons, List.map_nil, Sem.run_bind, Sem.run_pure, Result.andThen_ok, List.foldlM_cons, List.foldlM_nil]
  have : (if b < a then b else a) = min a b := by omega
  simp [this]
theorem vmax {x y : Operand} {ts : Array TypeId} {k : IntKind} {a b : Int} (hx : ev n ρ x = .int k a) (hy : ev n ρ y = .int k b) :
    Val P w0 n ρ A ⟨d, .call ⟨.builtin .max, #[x, y], ts⟩, T, pos, af, g⟩ (.int k (max a b)) := fun w _ => by
  simp only [execOp, resolve, invoke, builtin, Builtin.max_, Builtin.max2, hx, hy, List.map_toArray, List.map_cons, List.map_nil, Sem.run_bind, Sem.run_pure, Result.andThen_ok, List.foldlM_cons, List.foldlM_nil]
  have : (if b > a then b else a) = max a b := by omega
  simp [this]
/-! whole numbers -/
variable {x y : Operand} {t t2 : TypeId} {k : IntKind} {a b : Int}
theorem wrap64_in {a : Int} (h : -9223372036854775808 ≤ a ∧ a ≤ 9223372036854775807) : IntKind.i64.wrap a = a := IntWalk.i64_in a h
theorem vaddr (hx : ev n ρ x = .int k a) (hy : ev n ρ y = .int k b) : Val P w0 n ρ A ⟨d, .binOp .add t x y t2, T, pos, af, g⟩ (.int k (k.wrap (a + b))) := fun w _ => by
  simp [execOp, hx, hy, eqGuard_add, binOp, Op.intArith]
theorem vsubr (hx : ev n ρ x = .int k a) (hy : ev n ρ y = .int k b) : Val P w0 n ρ A ⟨d, .binOp .sub t x y t2, T, pos, af, g⟩ (.int k (k.wrap (a - b))) := fun w _ => by
  simp [execOp, hx, hy, eqGuard_sub, binOp, Op.intArith]
theorem vmulr (hx : ev n ρ x = .int k a) (hy : ev n ρ y = .int k b) : Val P w0 n ρ A ⟨d, .binOp .mul t x y t2, T, pos, af, g⟩ (.int k (k.wrap (a * b))) := fun w _ => by
  simp [execOp, hx, hy, eqGuard_mul, binOp, Op.intArith]
theorem vadd (hx : ev n ρ x = .int .i64 a) (hy : ev n ρ y = .int .i64 b) (h : -9223372036854775808 ≤ a + b ∧ a + b ≤ 9223372036854775807) : Val P w0 n ρ A ⟨d, .binOp .add t x y t2, T, pos, af, g⟩ (.int .i64 (a + b)) := by
  have := vaddr (P := P) (w0 := w0) (A := A) (d := d) (T := T) (pos := pos) (af := af) (g := g) (t := t) (t2 := t2) hx hy
  rwa [wrap64_in h] at this
theorem vsub (hx : ev n ρ x = .int .i64 a) (hy : ev n ρ y = .int .i64 b) (h : -9223372036854775808 ≤ a - b ∧ a - b ≤ 9223372036854775807) : Val P w0 n ρ A ⟨d, .binOp .sub t x y t2, T, pos, af, g⟩ (.int .i64 (a - b)) := by
  have := vsubr (P := P) (w0 := w0) (A := A) (d := d) (T := T) (pos := pos) (af := af) (g := g) (t := t) (t2 := t2) hx hy
  rwa [wrap64_in h] at this
theorem vmul (hx : ev n ρ x = .int .i64 a) (hy : ev n ρ y = .int .i64 b) (h : -9223372036854775808 ≤ a * b ∧ a * b ≤ 9223372036854775807) : Val P w0 n ρ A ⟨d, .binOp .mul t x y t2, T, pos, af, g⟩ (.int .i64 (a * b)) := by
  have := vmulr (P := P) (w0 := w0) (A := A) (d := d) (T := T) (pos := pos) (af := af) (g := g) (t := t) (t2 := t2) hx hy
  rwa [wrap64_in h] at this
theorem vquo (hx : ev n ρ x = .int k a) (hy : ev n ρ y = .int k b) (h0 : b ≠ 0) : Val P w0 n ρ A ⟨d, .binOp .quo t x y t2, T, pos, af, g⟩ (.int k (k.wrap (a.tdiv b))) := fun w _ => by
  simp [execOp, hx, hy, eqGuard_quo, binOp, Op.intDiv, h0]
theorem vrem (hx : ev n ρ x = .int k a) (hy : ev n ρ y = .int k b) (h0 : b ≠ 0) : Val P w0 n ρ A ⟨d, .binOp .rem t x y t2, T, pos, af, g⟩ (.int k (a.tmod b)) := fun w _ => by
  simp [execOp, hx, hy, eqGuard_rem, binOp, Op.intDiv, h0]
theorem beq_dec (a b : Int) : (a == b) = decide (a = b) := by rw [Bool.eq_iff_iff, beq_iff_eq, decide_eq_true_iff]
theorem veq (hx : ev n ρ x = .int k a) (hy : ev n ρ y = .int k b) : Val P w0 n ρ A ⟨d, .binOp .eql t x y t2, T, pos, af, g⟩ (.bool (decide (a = b))) := fun w _ => by
  simp only [execOp, hx, hy, eqGuard_at_int, binOp, Op.intCmp, beq_dec, ne_eq, not_true_eq_false, if_false]
  rfl
theorem vne (hx : ev n ρ x = .int k a) (hy : ev n ρ y = .int k b) : Val P w0 n ρ A ⟨d, .binOp .neq t x y t2, T, pos, af, g⟩ (.bool (decide (a ≠ b))) := fun w _ => by
  simp [execOp, hx, hy, eqGuard_at_int, binOp, Op.intCmp, bne, beq_dec]
theorem vlt (hx : ev n ρ x = .int k a) (hy : ev n ρ y = .int k b) : Val P w0 n ρ A ⟨d, .binOp .lss t x y t2, T, pos, af, g⟩ (.bool (decide (a < b))) := fun w _ => by
  simp [execOp, hx, hy, eqGuard_lss, binOp, Op.intCmp]
theorem vle (hx : ev n ρ x = .int k a) (hy : ev n ρ y = .int k b) : Val P w0 n ρ A ⟨d, .binOp .leq t x y t2, T, pos, af, g⟩ (.bool (decide (a ≤ b))) := fun w _ => by
  simp [execOp, hx, hy, eqGuard_leq, binOp, Op.intCmp]
theorem vgt (hx : ev n ρ x = .int k a) (hy : ev n ρ y = .int k b) : Val P w0 n ρ A ⟨d, .binOp .gtr t x y t2, T, pos, af, g⟩ (.bool (decide (b < a))) := fun w _ => by
  simp [execOp, hx, hy, eqGuard_gtr, binOp, Op.intCmp]
theorem vge (hx : ev n ρ x = .int k a) (hy : ev n ρ y = .int k b) : Val P w0 n ρ A ⟨d, .binOp .geq t x y t2, T, pos, af, g⟩ (.bool (decide (b ≤ a))) := fun w _ => by
  simp [execOp, hx, hy, eqGuard_geq, binOp, Op.intCmp]
def bAnd (k : IntKind) (a b : Int) : Int := k.wrap (BitVec.ofInt k.bits a &&& BitVec.ofInt k.bits b).toNat
def bOr (k : IntKind) (a b : Int) : Int := k.wrap (BitVec.ofInt k.bits a ||| BitVec.ofInt k.bits b).toNat
def bXor (k : IntKind) (a b : Int) : Int := k.wrap (BitVec.ofInt k.bits a ^^^ BitVec.ofInt k.bits b).toNat
def bShl (k : IntKind) (a b : Int) : Int := k.wrap (a * 2 ^ (min b.toNat k.bits))
def bShr (k : IntKind) (a b : Int) : Int := a.fdiv (2 ^ (min b.toNat k.bits))
theorem vand (hx : ev n ρ x = .int k a) (hy : ev n ρ y = .int k b) : Val P w0 n ρ A ⟨d, .binOp .and t x y t2, T, pos, af, g⟩ (.int k (bAnd k a b)) := fun w _ => by
  simp [execOp, hx, hy, eqGuard_and, binOp, Op.intBits, bAnd]
theorem vor (hx : ev n ρ x = .int k a) (hy : ev n ρ y = .int k b) : Val P w0 n ρ A ⟨d, .binOp .or t x y t2, T, pos, af, g⟩ (.int k (bOr k a b)) := fun w _ => by
  simp [execOp, hx, hy, eqGuard_or, binOp, Op.intBits, bOr]
theorem vxor (hx : ev n ρ x = .int k a) (hy : ev n ρ y = .int k b) : Val P w0 n ρ A ⟨d, .binOp .xor t x y t2, T, pos, af, g⟩ (.int k (bXor k a b)) := fun w _ => by
  simp [execOp, hx, hy, eqGuard_xor, binOp, Op.intBits, bXor]
theorem vshl {k2 : IntKind} (hx : ev n ρ x = .int k a) (hy : ev n ρ y = .int k2 b) (h0 : 0 ≤ b) : Val P w0 n ρ A ⟨d, .binOp .shl t x y t2, T, pos, af, g⟩ (.int k (bShl k a b)) := fun w _ => by
  have : ¬ b < 0 := by omega
  simp [execOp, hx, hy, eqGuard_shl, binOp, Op.shift, this, bShl]
theorem vshr {k2 : IntKind} (hx : ev n ρ x = .int k a) (hy : ev n ρ y = .int k2 b) (h0 : 0 ≤ b) : Val P w0 n ρ A ⟨d, .binOp .shr t x y t2, T, pos, af, g⟩ (.int k (bShr k a b)) := fun w _ => by
  have : ¬ b < 0 := by omega
  simp [execOp, hx, hy, eqGuard_shr, binOp, Op.shift, this, bShr]
theorem vneg (hx : ev n ρ x = .int k a) : Val P w0 n ρ A ⟨d, .unOp .neg t x, T, pos, af, g⟩ (.int k (k.wrap (0 - a))) := fun w _ => by
  simp [execOp, hx, Op.unary, Op.intArith]
theorem vcom (hx : ev n ρ x = .int k a) : Val P w0 n ρ A ⟨d, .unOp .xor t x, T, pos, af, g⟩ (.int k (bXor k (if k.signed then -1 else k.max) a)) := fun w _ => by
  simp [execOp, hx, Op.unary, Op.intBits, bXor]
theorem vcv {src dst : TypeId} {k2 : IntKind} (hs : (P.underlying src).isSome = true) (hd : P.underlying dst = some (.int k)) (hx : ev n ρ x = .int k2 a) : Val P w0 n ρ A ⟨d, .convert src dst x, T, pos, af, g⟩ (.int k (k.wrap a)) := fun w _ => by
  obtain ⟨ds, hds⟩ := Option.isSome_iff_exists.1 hs
  cases ds <;> simp [execOp, hx, convert, run_underlying hds, run_underlying hd, Conv.intToInt]
/-! bools -/
variable {p q : Bool}
theorem vnot (hx : ev n ρ x = .bool p) : Val P w0 n ρ A ⟨d, .unOp .not t x, T, pos, af, g⟩ (.bool (!p)) := fun w _ => by
  simp [execOp, hx, Op.unary]
theorem vpk {c : Operand} (hc : ev n ρ c = .bool p) : Val P w0 n ρ A ⟨d, .pick c x y, T, pos, af, g⟩ (if p = true then ev n ρ x else ev n ρ y) := fun w _ => by
  cases p <;> simp [execOp, hc, asBool]
theorem vpkt {c : Operand} (hc : ev n ρ c = .bool true) : Val P w0 n ρ A ⟨d, .pick c x y, T, pos, af, g⟩ (ev n ρ x) := fun w _ => by
  simp [execOp, hc, asBool]
theorem vpkf {c : Operand} (hc : ev n ρ c = .bool false) : Val P w0 n ρ A ⟨d, .pick c x y, T, pos, af, g⟩ (ev n ρ y) := fun w _ => by
  simp [execOp, hc, asBool]
theorem run_eqb {t : TypeId} (ht : P.underlying t = some .bool) (a b : Bool) (w : World) : (Op.equal t (.bool a) (.bool b)).run P w = .ok (a == b) w := run_equal_bool w t a b ht
theorem run_eqp {t e : TypeId} (ht : P.underlying t = some (.pointer e)) (m : Option Addr) (w : World) : (Op.equal t (.pointer m) (.pointer none)).run P w = .ok m.isNone w := by
  show (Op.equalIn (9999 + 1) t (.pointer m) (.pointer none)).run P w = _
  generalize 9999 = N
  cases m <;> simp [Op.equalIn, run_underlying ht]
theorem veqb (ht : P.underlying t = some .bool) (hx : ev n ρ x = .bool p) (hy : ev n ρ y = .bool q) : Val P w0 n ρ A ⟨d, .binOp .eql t x y t2, T, pos, af, g⟩ (.bool (decide (p = q))) := fun w _ => by
  cases p <;> cases q <;> simp [execOp, hx, hy, eqGuard_at_bool, binOp, run_eqb ht]
theorem vneb (ht : P.underlying t = some .bool) (hx : ev n ρ x = .bool p) (hy : ev n ρ y = .bool q) : Val P w0 n ρ A ⟨d, .binOp .neq t x y t2, T, pos, af, g⟩ (.bool (decide (p ≠ q))) := fun w _ => by
  cases p <;> cases q <;> simp [execOp, hx, hy, eqGuard_at_bool, binOp, run_eqb ht]
/-! strings -/
variable {s r : ByteArray}
theorem toList_inj {s r : ByteArray} : s.toList = r.toList ↔ s = r := by
  rw [ByteArray.toList_eq, ByteArray.toList_eq]
  constructor
  · intro h; apply ByteArray.ext; exact Array.toList_inj.1 h
  · rintro rfl; rfl
theorem veqs (hx : ev n ρ x = .string s) (hy : ev n ρ y = .string r) : Val P w0 n ρ A ⟨d, .binOp .eql t x y t2, T, pos, af, g⟩ (.bool (decide (s = r))) := fun w _ => by
  have : (s.toList == r.toList) = decide (s = r) := by rw [Bool.eq_iff_iff]; simp [toList_inj]
  simp [execOp, hx, hy, eqGuard_at_string, binOp, Op.stringOp, this]
theorem vnes (hx : ev n ρ x = .string s) (hy : ev n ρ y = .string r) : Val P w0 n ρ A ⟨d, .binOp .neq t x y t2, T, pos, af, g⟩ (.bool (decide (s ≠ r))) := fun w _ => by
  have : (s.toList == r.toList) = decide (s = r) := by rw [Bool.eq_iff_iff]; simp [toList_inj]
  simp [execOp, hx, hy, eqGuard_at_string, binOp, Op.stringOp, this]
theorem vlts (hx : ev n ρ x = .string s) (hy : ev n ρ y = .string r) : Val P w0 n ρ A ⟨d, .binOp .lss t x y t2, T, pos, af, g⟩ (.bool (Op.bytesLess s.toList r.toList)) := fun w _ => by
  simp [execOp, hx, hy, eqGuard_at_string, binOp, Op.stringOp]
theorem vges (hx : ev n ρ x = .string s) (hy : ev n ρ y = .string r) : Val P w0 n ρ A ⟨d, .binOp .geq t x y t2, T, pos, af, g⟩ (.bool (!Op.bytesLess s.toList r.toList)) := fun w _ => by
  simp [execOp, hx, hy, eqGuard_at_string, binOp, Op.stringOp]
theorem vcat (hx : ev n ρ x = .string s) (hy : ev n ρ y = .string r) (h : s.size + r.size ≤ 9223372036854775807) : Val P w0 n ρ A ⟨d, .binOp .add t x y t2, T, pos, af, g⟩ (.string (s ++ r)) := fun w _ => by
  have : ¬ (9223372036854775807 : Int) < (s.size : Int) + (r.size : Int) := by omega
  simp [execOp, hx, hy, eqGuard_at_string, binOp, Op.stringOp, this]
theorem vixs {k : IntKind} {i : Int} {c : UInt8} (ht : P.underlying t = some .string) (hx : ev n ρ x = .string s) (hy : ev n ρ y = .int k i) (h0 : 0 ≤ i) (hi : s[i.toNat]? = some c) : Val P w0 n ρ A ⟨d, .index t x y, T, pos, af, g⟩ (.int .u8 c.toNat) := fun w _ => by
  simp [execOp, hx, hy, Instr.index, asIntOf, run_underlying ht, h0, hi]
/-! pointers -/
variable {ad : Addr} {m : Option Addr}
theorem vnil (hx : ev n ρ x = .pointer (some ad)) : Val P w0 n ρ A ⟨d, .nilCheck x, T, pos, af, g⟩ (.pointer (some ad)) := fun w _ => by
  simp [execOp, hx]
theorem vpeq {e : TypeId} (ht : P.underlying t = some (.pointer e)) (hx : ev n ρ x = .pointer m) (hy : ev n ρ y = .pointer none) : Val P w0 n ρ A ⟨d, .binOp .eql t x y t2, T, pos, af, g⟩ (.bool m.isNone) := fun w _ => by
  cases m <;> simp [execOp, hx, hy, eqGuard_at_pointer, binOp, run_eqp ht]
theorem vpne {e : TypeId} (ht : P.underlying t = some (.pointer e)) (hx : ev n ρ x = .pointer m) (hy : ev n ρ y = .pointer none) : Val P w0 n ρ A ⟨d, .binOp .neq t x y t2, T, pos, af, g⟩ (.bool m.isSome) := fun w _ => by
  cases m <;> simp [execOp, hx, hy, eqGuard_at_pointer, binOp, run_eqp ht]
theorem vfld {f off : Nat} (hf : fieldT P t f off = true) (hx : ev n ρ x = .pointer (some ad)) : Val P w0 n ρ A ⟨d, .fieldAddr t x f, T, pos, af, g⟩ (.pointer (some (ad.add off))) := fun w _ => by
  simp [execOp, hx, run_fieldAt_of hf]
theorem vld {v : Value} (ht : plainT P t = true) (hx : ev n ρ x = .pointer m) (hc : CellC w0 A m v) : Val P w0 n ρ A ⟨d, .load t x, T, pos, af, g⟩ v := fun w hw => by
  obtain ⟨a, rfl, ha⟩ := hc w hw
  simp [execOp, hx, Instr.loadAt, Instr.sureAddr, loadVar, run_isAgg_of ht, ha]
theorem vfn {f : FuncId} {cl : List Operand} {vs : List Value} (hv : cl.map (ev n ρ) = vs) : Val P w0 n ρ A ⟨d, .makeFunc (.func f) #[] cl.toArray, T, pos, af, g⟩ (.func (.func f) #[] vs.toArray) := fun w _ => by
  subst hv
  simp [execOp, Instr.makeFunc]
theorem vex {i : Nat} {vs : Array Value} {v : Value} (hx : ev n ρ x = .tuple vs) (hi : vs[i]? = some v) : Val P w0 n ρ A ⟨d, .extract x i, T, pos, af, g⟩ v := fun w _ => by
  simp [execOp, hx, Instr.extract, hi]
/-! slices -/
variable {e : TypeId} {base : Option Addr} {l c sz : Nat} {vs : List Value}
theorem vix {i : Int} (ht : P.underlying t = some (.slice e)) (hs : sizeT P e sz = true) (hx : ev n ρ x = .slice base l c) (hy : ev n ρ y = .int k i) (h0 : 0 ≤ i) (h1 : i < l) (hb : RdC w0 A base vs) (hl : 0 < vs.length) :
    Val P w0 n ρ A ⟨d, .indexAddr t x y, T, pos, af, g⟩ (.pointer (base.map (·.add (i.toNat * sz)))) := fun w hw => by
  obtain ⟨a, rfl, _⟩ := hb w hw 0 _ (List.getElem?_eq_getElem hl)
  simp [execOp, hx, hy, Instr.indexAt, asIntOf, run_underlying ht, h0, h1, run_sizeOf_of hs]
theorem vix1 {i : Int} (ht : P.underlying t = some (.slice e)) (hs : sizeT P e 1 = true) (hx : ev n ρ x = .slice base l c) (hy : ev n ρ y = .int k i) (h0 : 0 ≤ i) (h1 : i < l) (hb : RdC w0 A base vs) (hl : 0 < vs.length) :
    Val P w0 n ρ A ⟨d, .indexAddr t x y, T, pos, af, g⟩ (.pointer (base.map (·.add i.toNat))) := by
  have := vix (P := P) (w0 := w0) (A := A) (d := d) (T := T) (pos := pos) (af := af) (g := g) ht hs hx hy h0 h1 hb hl
  simpa using this
def slB (base : Option Addr) (lo m s : Nat) : Option Addr := if m = lo then base else base.map (·.add (lo * s))
theorem vslL {k : IntKind} {lo : Int} (ht : P.underlying t = some (.slice e)) (hs : sizeT P e sz = true) (hx : ev n ρ x = .slice base l c) (hlo : ev n ρ y = .int k lo) (h0 : 0 ≤ lo) (h1 : lo ≤ l) :
    Val P w0 n ρ A ⟨d, .slice t x (some y) none none, T, pos, af, g⟩ (.slice (slB base lo.toNat c sz) (l - lo.toNat) (c - lo.toNat)) := fun w hw => by
  simp [execOp, hx, hlo, Instr.sliceAt, run_underlying ht, Instr.slice, Instr.sliceBounds, Instr.sliceBound, asIntOf, h0, h1, run_sizeOf_of hs, slB]
theorem vslH {k : IntKind} {hi : Int} (ht : P.underlying t = some (.slice e)) (hs : sizeT P e sz = true) (hx : ev n ρ x = .slice base l c) (hhi : ev n ρ y = .int k hi) (h0 : 0 ≤ hi) (h1 : hi ≤ c) :
    Val P w0 n ρ A ⟨d, .slice t x none (some y) none, T, pos, af, g⟩ (.slice base hi.toNat c) := fun w hw => by
  simp [execOp, hx, hhi, Instr.sliceAt, run_underlying ht, Instr.slice, Instr.sliceBounds, Instr.sliceBound, asIntOf, h0, h1, run_sizeOf_of hs]
  cases base <;> simp [Addr.add]
theorem vslLH {z : Operand} {k k' : IntKind} {lo hi : Int} (ht : P.underlying t = some (.slice e)) (hs : sizeT P e sz = true) (hx : ev n ρ x = .slice base l c) (hlo : ev n ρ y = .int k lo) (hhi : ev n ρ z = .int k' hi) (h0 : 0 ≤ lo) (h1 : lo ≤ hi) (h2 : hi ≤ c) :
    Val P w0 n ρ A ⟨d, .slice t x (some y) (some z) none, T, pos, af, g⟩ (.slice (slB base lo.toNat c sz) (hi.toNat - lo.toNat) (c - lo.toNat)) := fun w hw => by
  have h3 : 0 ≤ hi := by omega
  have h4 : lo ≤ (hi.toNat : Int) := by omega
  have h5 : ¬ max hi 0 < lo := by omega
  simp [h5, execOp, hx, hlo, hhi, Instr.sliceAt, run_underlying ht, Instr.slice, Instr.sliceBounds, Instr.sliceBound, asIntOf, h0, h2, h3, h4, run_sizeOf_of hs, slB]
theorem RdC.slice (h : RdC w0 A base vs) (lo m s k : Nat) (hm : m = lo → k = 0) : RdC w0 A (slB base lo m s) ((vs.drop (lo * s)).take k) := by
  unfold slB
  split
  · rename_i hml; rw [hm hml]; simpa using RdC.nil
  · exact (h.drop _).take _
end

/-! ### What makes or writes memory -/
section
variable {P : Program} {w0 : World} {n : Nat} {ops : Array Oper} {Q : Exit → Act → World → Prop} {ρ : Env} {A R : List HProp} {rest : List Oper} {d : Nat} {T : TypeId} {pos : String} {af : Array Edge}
variable {x y : Operand} {t e : TypeId} {b off : Nat} {vs : List Value}
theorem WL.step {o : Oper} (hg : o.guard = none) (h : ∀ w, Own w0 A w → ∃ v w' A' ρ', (execOp (ev n ρ) o).run P w = .ok v w' ∧ (match v with | .value u => (act n ρ).put o.dst u = act n ρ' | .skip => (act n ρ).put o.dst undef = act n ρ' | _ => False) ∧ Own w0 A' w' ∧ WL P w0 n ops Q rest ρ' A') :
    WL P w0 n ops Q (o :: rest) ρ A := by
  refine ⟨fun w hw => ?_⟩
  refine wpList_plain hg fun K hK => ?_
  obtain ⟨v, w', A', ρ', hr, hput, hO, hW⟩ := h w hw
  unfold Oper.wp
  rw [eval_act, hr]
  cases v with
  | value u => simp only [Oper.upon_value]; rw [show (act n ρ).put o.dst u = act n ρ' from hput]; exact hK _ _ (hW.run w' hO)
  | skip => simp only [Oper.upon_skip]; rw [show (act n ρ).put o.dst undef = act n ρ' from hput]; exact hK _ _ (hW.run w' hO)
  | _ => exact hput.elim
/-- a store of one cell -/
theorem st {v : Value} (ht : plainT P t = true) (hs : sizeT P t 1 = true) (hx : ev n ρ x = .pointer (some ⟨b, off, none⟩)) (hv : ev n ρ y = v) (h1 : v.oneCell' = true) (ho : Nat.blt off vs.length = true)
    (h : WL P w0 n ops Q rest ρ (cel b (vs.set off v) e :: R)) : WL P w0 n ops Q (⟨none, .store t x y, T, pos, af, none⟩ :: rest) ρ (cel b vs e :: R) :=
  WL.step rfl fun w hw => by
    obtain ⟨fz, hf, hO⟩ := hw.cel
    have hh := hO.heap.1
    have ho' : off < vs.length := by simpa [Nat.blt_eq] using ho
    refine ⟨.skip, w.setCell ⟨b, off, none⟩ v, _, _, ?_, rfl, Own.intro_cel (by simpa using hf) (hO.turned (setCell_turned hh v)), h⟩
    have hc : v.cells.size = 1 := by cases v <;> first | rfl | cases h1
    have hl : v.cells.toList = [v] := by cases v <;> first | rfl | cases h1
    simp [execOp, hx, hv, Instr.storeAt, Instr.sureAddr, storeVar, run_sizeOf_of hs, hc, hl, storeCells, Addr.add, run_store_cel hh hf ho' h1]
/-- a struct or an array, stored whole -/
theorem sta {cs : List Value} {k : Nat} (hs : sizeT P t k = true) (hx : ev n ρ x = .pointer (some ⟨b, off, none⟩)) (hv : ev n ρ y = .agg cs.toArray) (h1 : cs.all (·.oneCell') = true) (hk : Nat.beq cs.length k = true) (ho : off + cs.length ≤ vs.length)
    (h : WL P w0 n ops Q rest ρ (cel b (splice vs off cs) e :: R)) : WL P w0 n ops Q (⟨none, .store t x y, T, pos, af, none⟩ :: rest) ρ (cel b vs e :: R) :=
  WL.step rfl fun w hw => by
    obtain ⟨fz, hf, hO⟩ := hw.cel
    obtain ⟨w', hr, ht⟩ := run_storeCells_cel (P := P) cs 0 vs w hO.heap.1 hf (by simpa using ho) (fun v hv => by simpa using (List.all_eq_true.1 h1) v hv)
    have hk' := Nat.eq_of_beq_eq_true hk
    refine ⟨.skip, w', _, _, ?_, rfl, Own.intro_cel (fz := fz) (by rw [splice_length ho]; exact hf) (hO.turned (by simpa using ht)), h⟩
    simp [execOp, hx, hv, Instr.storeAt, Instr.sureAddr, storeVar, run_sizeOf_of hs, Value.cells, hk', hr]
/-- a new variable -/
theorem bx {v : Value} (hx : ev n ρ x = v) (h : ∀ b, WL P w0 n ops Q rest (set ρ d (.pointer (some ⟨b, 0, none⟩))) (cel b v.cells.toList t :: A)) : WL P w0 n ops Q (⟨some d, .box t x, T, pos, af, none⟩ :: rest) ρ A :=
  WL.step rfl fun w hw => ⟨.value (.pointer (some ⟨w.heap.size, 0, none⟩)), w.alloc (.cells v.cells t), _, _, by
    simp [execOp, hx, Instr.box, newVar, newRow], put_act .., Own.intro_cel (fz := (0, 0)) (NF.zero _) (by simpa using hw.alloc _), h _⟩
theorem al {z : Value} {i : TypeInfo} (hi : P.info? t = some i) (hz : i.zero = some z) (h : ∀ b, WL P w0 n ops Q rest (set ρ d (.pointer (some ⟨b, 0, none⟩))) (cel b z.cells.toList t :: A)) : WL P w0 n ops Q (⟨some d, .alloc t, T, pos, af, none⟩ :: rest) ρ A :=
  WL.step rfl fun w hw => ⟨.value (.pointer (some ⟨w.heap.size, 0, none⟩)), w.alloc (.cells z.cells t), _, _, by
    simp [execOp, Instr.alloc, newVar, newRow, zeroValue, typeInfo, hi, hz], put_act .., Own.intro_cel (fz := (0, 0)) (NF.zero _) (by simpa using hw.alloc _), h _⟩
end

/-! ### Calls -/
section
variable {P : Program} {w0 : World} {n : Nat} {ops : Array Oper} {Q : Exit → Act → World → Prop} {ρ : Env} {A : List HProp} {rest : List Oper} {d : Option Tmp} {T : TypeId} {pos : String} {af : Array Edge}
theorem evs_toArray (n : Nat) (ρ : Env) (l : List Operand) : l.toArray.map (ev n ρ) = (evs n ρ l).toArray := by
  have : ∀ l : List Operand, evs n ρ l = l.map (ev n ρ) := fun l => by induction l with
    | nil => rfl
    | cons x l ih => simp [evs, ih]
  simp [this]
theorem run_call {f : FuncId} {aops : List Operand} {args : List Value} {tys : Array TypeId} {g : Option (Nat × Bool)} (hc : callT P f = true) (ha : evs n ρ aops = args) (w : World) :
    (execOp (ev n ρ) ⟨d, .call ⟨.value (.func f), aops.toArray, tys⟩, T, pos, af, g⟩).run P w = .ok (.enter f args.toArray) w := by
  simp only [execOp, resolve, evs_toArray, ha, ev, Deferred.ofValue, Sem.run_bind, Sem.run_pure, Result.andThen_ok, invoke]
  rw [show (#[] ++ args.toArray ++ #[] : Array Value) = args.toArray by simp, run_callFunc_of hc]
theorem run_callv {f : FuncId} {x : Operand} {aops : List Operand} {args cap : List Value} {tys : Array TypeId} {g : Option (Nat × Bool)} (hc : callT P f = true) (hx : ev n ρ x = .func (.func f) #[] cap.toArray) (ha : evs n ρ aops = args) (w : World) :
    (execOp (ev n ρ) ⟨d, .call ⟨.value x, aops.toArray, tys⟩, T, pos, af, g⟩).run P w = .ok (.enter f (args ++ cap).toArray) w := by
  simp only [execOp, resolve, evs_toArray, ha, hx, Deferred.ofValue, Sem.run_bind, Sem.run_pure, Result.andThen_ok, invoke]
  rw [show (#[] ++ args.toArray ++ cap.toArray : Array Value) = (args ++ cap).toArray by simp, run_callFunc_of hc]
variable {ι : Type} {pr : ι → Prop} {val : ι → Value} {post : ι → List HProp}
theorem cl {k : Nat} {f : FuncId} {aops : List Operand} {args : List Value} {tys : Array TypeId} (hs : Fun P w0 f args A (Ret w0 pr val post)) (hc : callT P f = true) (ha : evs n ρ aops = args)
    (h : ∀ i, pr i → WL P w0 n ops Q rest (set ρ k (val i)) (post i)) : WL P w0 n ops Q (⟨some k, .call ⟨.value (.func f), aops.toArray, tys⟩, T, pos, af, none⟩ :: rest) ρ A := by
  refine ⟨fun w hw => ?_⟩
  refine wpList_plain rfl fun K hK => ?_
  unfold Oper.wp
  rw [eval_act, run_call hc ha, Oper.upon_enter]
  refine (hs.run w hw).mono ?_
  rintro e w' ⟨i, hi, rfl, hO⟩
  simp only [put_act]
  exact hK _ _ ((h i hi).run w' hO)
theorem cl0 {f : FuncId} {aops : List Operand} {args : List Value} {tys : Array TypeId} (hs : Fun P w0 f args A (Ret w0 pr val post)) (hc : callT P f = true) (ha : evs n ρ aops = args)
    (h : ∀ i, pr i → WL P w0 n ops Q rest ρ (post i)) : WL P w0 n ops Q (⟨none, .call ⟨.value (.func f), aops.toArray, tys⟩, T, pos, af, none⟩ :: rest) ρ A := by
  refine ⟨fun w hw => ?_⟩
  refine wpList_plain rfl fun K hK => ?_
  unfold Oper.wp
  rw [eval_act, run_call hc ha, Oper.upon_enter]
  refine (hs.run w hw).mono ?_
  rintro e w' ⟨i, hi, rfl, hO⟩
  exact hK _ _ ((h i hi).run w' hO)
theorem clv {k : Nat} {f : FuncId} {x : Operand} {aops : List Operand} {args cap : List Value} {tys : Array TypeId} (hs : Fun P w0 f (args ++ cap) A (Ret w0 pr val post)) (hc : callT P f = true) (hx : ev n ρ x = .func (.func f) #[] cap.toArray) (ha : evs n ρ aops = args)
    (h : ∀ i, pr i → WL P w0 n ops Q rest (set ρ k (val i)) (post i)) : WL P w0 n ops Q (⟨some k, .call ⟨.value x, aops.toArray, tys⟩, T, pos, af, none⟩ :: rest) ρ A := by
  refine ⟨fun w hw => ?_⟩
  refine wpList_plain rfl fun K hK => ?_
  unfold Oper.wp
  rw [eval_act, run_callv hc hx ha, Oper.upon_enter]
  refine (hs.run w hw).mono ?_
  rintro e w' ⟨i, hi, rfl, hO⟩
  simp only [put_act]
  exact hK _ _ ((h i hi).run w' hO)
/-- a quiet call: it hands back one value and leaves the chunks -/
abbrev Quiet (P : Program) (w0 : World) (f : FuncId) (args : List Value) (A : List HProp) (v : Value) : Prop := Fun P w0 f args A (fun e w => e = .returned v ∧ Own w0 A w)
theorem Fun.quiet {f : FuncId} {args : List Value} {v : Value} (h : Fun P w0 f args A (Ret w0 (fun _ : Unit => True) (fun _ => v) (fun _ => A))) : Quiet P w0 f args A v :=
  h.mono fun e w ⟨_, _, he, hO⟩ => ⟨he, hO⟩
theorem qcl {k : Nat} {f : FuncId} {aops : List Operand} {args : List Value} {tys : Array TypeId} {v : Value} (hs : Quiet P w0 f args A v) (hc : callT P f = true) (ha : evs n ρ aops = args)
    (h : WQ P w0 n ops Q rest (set ρ k v) A) : WQ P w0 n ops Q (⟨some k, .call ⟨.value (.func f), aops.toArray, tys⟩, T, pos, af, none⟩ :: rest) ρ A := by
  refine ⟨?_⟩
  refine wpQuiet_step fun K hK => ?_
  simp only [Region.wanted, if_true]
  refine ⟨v, fun w hw => ?_, by rw [put_act]; exact hK _ h.run⟩
  unfold Oper.quietAt
  rw [eval_act, run_call hc ha]
  exact ⟨rfl, hs.run w hw⟩
theorem qclg {k g : Nat} {b : Bool} {f : FuncId} {aops : List Operand} {args : List Value} {tys : Array TypeId} {v : Value} (hg : yieldN n ρ ops g = some b) (hs : Quiet P w0 f args A v) (hc : callT P f = true) (ha : evs n ρ aops = args)
    (h : WQ P w0 n ops Q rest (set ρ k v) A) : WQ P w0 n ops Q (⟨some k, .call ⟨.value (.func f), aops.toArray, tys⟩, T, pos, af, some (g, b)⟩ :: rest) ρ A := by
  refine ⟨?_⟩
  refine wpQuiet_step fun K hK => ?_
  simp only [Region.wanted, act, yielded_arr, hg, beq_self_eq_true, if_true]
  refine ⟨v, fun w hw => ?_, by rw [← act, put_act]; exact hK _ h.run⟩
  unfold Oper.quietAt
  rw [← act, eval_act, run_call hc ha]
  exact ⟨rfl, hs.run w hw⟩
end
end Go.Sl
