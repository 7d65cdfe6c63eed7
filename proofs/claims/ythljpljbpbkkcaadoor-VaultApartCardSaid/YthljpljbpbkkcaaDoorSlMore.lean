/-
  Chunks found by their block; tests that part the walk; small rules. Plain theorems over any program.
-/
import Derived.Test.YthljpljbpbkkcaaDoorSlMem
set_option linter.unusedVariables false
set_option linter.unusedSimpArgs false
namespace Go.Sl
open Go.RowKit

class CelAt (A : List HProp) (b : Nat) (vs : outParam (List Value)) (e : outParam TypeId) : Prop where
  mem : cel b vs e ∈ A
instance (priority := low) CelAt.tail {A : List HProp} {X : HProp} {b : Nat} {vs : List Value} {e : TypeId} [h : CelAt A b vs e] : CelAt (X :: A) b vs e := ⟨List.Mem.tail _ h.mem⟩
instance CelAt.head {A : List HProp} {b : Nat} {vs : List Value} {e : TypeId} : CelAt (cel b vs e :: A) b vs e := ⟨List.Mem.head _⟩
class Nth (l : List Value) (i : Nat) (v : outParam Value) : Prop where
  nth : l[i]? = some v
instance Nth.zero {x : Value} {l : List Value} : Nth (x :: l) 0 x := ⟨rfl⟩
instance Nth.succ {x v : Value} {l : List Value} {i : Nat} [h : Nth l i v] : Nth (x :: l) (i + 1) v := ⟨by simpa using h.nth⟩
class SetNth (l : List Value) (i : Nat) (v : Value) (l' : outParam (List Value)) : Prop where
  set : l.set i v = l'
  lt : i < l.length
instance SetNth.zero {x v : Value} {l : List Value} : SetNth (x :: l) 0 v (v :: l) := ⟨rfl, by simp⟩
instance SetNth.succ {x v : Value} {l l' : List Value} {i : Nat} [h : SetNth l i v l'] : SetNth (x :: l) (i + 1) v (x :: l') := ⟨by simp [h.set], by have := h.lt; simp; omega⟩
class Reads (w0 : World) (A : List HProp) (base : Option Addr) (vs : outParam (List Value)) : Prop where
  rd : RdC w0 A base vs
instance (priority := low) Reads.tail {w0 : World} {A : List HProp} {X : HProp} {base : Option Addr} {vs : List Value} [h : Reads w0 A base vs] : Reads w0 (X :: A) base vs := ⟨h.rd.cons⟩
instance Reads.row {w0 : World} {A : List HProp} {base : Option Addr} {c s : Nat} {e : TypeId} {vs : List Value} : Reads w0 (row base c s e vs :: A) base vs := ⟨RdC.of_row (List.Mem.head _)⟩
instance Reads.cel {w0 : World} {A : List HProp} {b : Nat} {e : TypeId} {vs : List Value} : Reads w0 (Sl.cel b vs e :: A) (some ⟨b, 0, none⟩) vs := ⟨RdC.of_cel 0 (List.Mem.head _) (by simp)⟩
theorem reads {w0 : World} {A : List HProp} {base : Option Addr} {vs : List Value} [h : Reads w0 A base vs] : RdC w0 A base vs := h.rd

section
variable {P : Program} {w0 : World} {n : Nat} {ops : Array Oper} {Q : Exit → Act → World → Prop} {ρ : Env} {A R : List HProp} {rest : List Oper} {T : TypeId} {pos : String} {af : Array Edge}
variable {x y : Operand} {t e : TypeId} {b i : Nat} {vs : List Value} {v : Value} {dd : Option Tmp} {g : Option (Nat × Bool)} {d gg : Nat} {gb : Bool} {op : Op}
/-- a load of a cell of a block that is borne -/
theorem vldc (ht : plainT P t = true) (hx : ev n ρ x = .pointer (some ⟨b, i, none⟩)) [hc : CelAt A b vs e] [hi : Nth vs i v] : Val P w0 n ρ A ⟨dd, .load t x, T, pos, af, g⟩ v :=
  vld ht hx (CellC.of_cel hc.mem hi.nth)
theorem vldx (ht : plainT P t = true) (hx : ev n ρ x = .pointer (some ⟨b, i, none⟩)) [hc : CelAt A b vs e] (hi : vs[i]? = some v) : Val P w0 n ρ A ⟨dd, .load t x, T, pos, af, g⟩ v :=
  vld ht hx (CellC.of_cel hc.mem hi)
/-- a store into the first chunk -/
theorem stc {vs' : List Value} (ht : plainT P t = true) (hs : sizeT P t 1 = true) (hx : ev n ρ x = .pointer (some ⟨b, i, none⟩)) (hv : ev n ρ y = v) (h1 : v.oneCell' = true) [hi : SetNth vs i v vs']
    (h : WL P w0 n ops Q rest ρ (cel b vs' e :: R)) : WL P w0 n ops Q (⟨none, .store t x y, T, pos, af, none⟩ :: rest) ρ (cel b vs e :: R) :=
  st ht hs hx hv h1 (by rw [Nat.blt_eq]; exact hi.lt) (by rw [hi.set]; exact h)
/-- a load of a byte of a slice that is read -/
theorem vldb {base : Option Addr} {j : Nat} {bs : List UInt8} (ht : plainT P t = true) (hx : ev n ρ x = .pointer (base.map (·.add j))) [hR : Reads w0 A base (u8s bs)] (hj : j < bs.length) : Val P w0 n ρ A ⟨dd, .load t x, T, pos, af, g⟩ (.int .u8 (bs[j].toNat : Int)) :=
  vld ht hx (hR.rd.cell (u8s_at hj))
theorem vldr {base : Option Addr} {j : Nat} (ht : plainT P t = true) (hx : ev n ρ x = .pointer (base.map (·.add j))) [hR : Reads w0 A base vs] (hj : vs[j]? = some v) : Val P w0 n ρ A ⟨dd, .load t x, T, pos, af, g⟩ v :=
  vld ht hx (hR.rd.cell hj)
theorem vixb {i : Int} {k : IntKind} {base : Option Addr} {l c : Nat} {bs : List UInt8} (ht : P.underlying t = some (.slice e)) (hs : sizeT P e 1 = true) (hx : ev n ρ x = .slice base l c) (hy : ev n ρ y = .int k i) (h0 : 0 ≤ i) (h1 : i < l) [hb : Reads w0 A base (u8s bs)] (hl : 0 < bs.length) :
    Val P w0 n ρ A ⟨dd, .indexAddr t x y, T, pos, af, g⟩ (.pointer (base.map (·.add i.toNat))) := vix1 ht hs hx hy h0 h1 hb.rd (by simpa using hl)
/-! tests that are known -/
theorem vT {o : Oper} {p : Prop} [Decidable p] (hv : Val P w0 n ρ A o (.bool (decide p))) (h : p) : Val P w0 n ρ A o (.bool true) := by simpa [h] using hv
theorem vF {o : Oper} {p : Prop} [Decidable p] (hv : Val P w0 n ρ A o (.bool (decide p))) (h : ¬ p) : Val P w0 n ρ A o (.bool false) := by simpa [h] using hv
/-! pointers held against nil -/
theorem vpeqF {ad : Addr} {t2 : TypeId} (ht : P.underlying t = some (.pointer e)) (hx : ev n ρ x = .pointer (some ad)) (hy : ev n ρ y = .pointer none) : Val P w0 n ρ A ⟨dd, .binOp .eql t x y t2, T, pos, af, g⟩ (.bool false) := vpeq ht hx hy
theorem vpeqT {t2 : TypeId} (ht : P.underlying t = some (.pointer e)) (hx : ev n ρ x = .pointer none) (hy : ev n ρ y = .pointer none) : Val P w0 n ρ A ⟨dd, .binOp .eql t x y t2, T, pos, af, g⟩ (.bool true) := vpeq ht hx hy
theorem vpneT {ad : Addr} {t2 : TypeId} (ht : P.underlying t = some (.pointer e)) (hx : ev n ρ x = .pointer (some ad)) (hy : ev n ρ y = .pointer none) : Val P w0 n ρ A ⟨dd, .binOp .neq t x y t2, T, pos, af, g⟩ (.bool true) := vpne ht hx hy
theorem vpneF {t2 : TypeId} (ht : P.underlying t = some (.pointer e)) (hx : ev n ρ x = .pointer none) (hy : ev n ρ y = .pointer none) : Val P w0 n ρ A ⟨dd, .binOp .neq t x y t2, T, pos, af, g⟩ (.bool false) := vpne ht hx hy
/-! struct literals -/
def placesL (P : Program) : List Field → Option (List (Nat × Nat))
  | [] => some []
  | f :: fs => match P.info? f.type, placesL P fs with
    | some i, some l => some ((f.offset, i.size) :: l)
    | _, _ => none
theorem run_places {P : Program} {w : World} : ∀ (fs : List Field) (pl : List (Nat × Nat)), placesL P fs = some pl → (fs.mapM (fun f => do pure (f.offset, ← sizeOf f.type)) : Sem (List (Nat × Nat))).run P w = .ok pl w
  | [], pl, h => by simp [placesL] at h; subst h; simp
  | f :: fs, pl, h => by
    simp only [placesL] at h
    cases hi : P.info? f.type with
    | none => simp [hi] at h
    | some i =>
      cases hl : placesL P fs with
      | none => simp [hi, hl] at h
      | some l =>
        simp [hi, hl] at h
        subst h
        have := run_places (w := w) fs l hl
        simp only [List.mapM_cons, Sem.run_bind, sizeOf, typeInfo, run_program, Result.andThen_ok, hi, Sem.run_pure] at this ⊢
        rw [this]
        rfl
def structT (P : Program) (t : TypeId) : Option (List (Nat × Nat)) := match P.underlying t with
  | some (.struct fs) => placesL P fs.toList
  | _ => none
def fillL (pl : List (Nat × Nat)) : List Value → List (Nat × Value) → Option (List Value)
  | cs, [] => some cs
  | cs, (i, v) :: rest => match pl[i]? with
    | none => none
    | some (off, size) => if v.cells.size ≠ size || off + v.cells.size > cs.length then none else fillL pl (splice cs off v.cells.toList) rest
theorem foldl_splice (vs : List Value) : ∀ (cs : Array Value) (off k : Nat), off + k + vs.length ≤ cs.size → (vs.zipIdx k).foldl (fun (cs : Array Value) (x : Value × Nat) => cs.setIfInBounds (off + x.2) x.1) cs = (splice cs.toList (off + k) vs).toArray := by
  induction vs with
  | nil => intro cs off k h; simp [splice]
  | cons v vs ih =>
    intro cs off k h
    simp only [List.length_cons] at h
    simp only [List.zipIdx_cons, List.foldl_cons]
    rw [ih _ _ _ (by simp; omega)]
    congr 1
    unfold splice
    apply List.ext_getElem?
    intro j
    simp only [Array.toList_setIfInBounds, List.getElem?_append, List.length_append, List.length_take, List.length_set, List.getElem?_take, List.getElem?_drop, List.getElem?_set, List.length_cons, List.getElem?_cons, Array.length_toList]
    repeat' split
    all_goals (try omega)
    all_goals (try rfl)
    all_goals (try (congr 1; omega))
theorem fill_fillL (pl : List (Nat × Nat)) : ∀ (ps : List (Nat × Value)) (cs : Array Value), Instr.fill (fun x => pl.toArray[x]?) cs ps = (fillL pl cs.toList ps).map List.toArray
  | [], cs => by simp [Instr.fill, fillL]
  | (i, v) :: rest, cs => by
    simp only [Instr.fill, fillL, List.getElem?_toArray]
    cases pl[i]? with
    | none => rfl
    | some os =>
      obtain ⟨off, size⟩ := os
      simp only [Array.length_toList]
      split
      · rfl
      · rename_i hne
        have h2 : off + v.cells.size ≤ cs.size := by
          simp only [Bool.or_eq_true, decide_eq_true_eq, not_or] at hne; omega
        have := foldl_splice v.cells.toList cs off 0 (by simpa using h2)
        have e : v.cells.zipIdx.foldl (fun (cs : Array Value) (x : Value × Nat) => cs.setIfInBounds (off + x.2) x.1) cs = (splice cs.toList off v.cells.toList).toArray := by
          rw [← Array.foldl_toList]
          simpa using this
        have e' : (Array.foldl (fun cs x => match x with | (c, j) => cs.setIfInBounds (off + j) c) cs v.cells.zipIdx) = (splice cs.toList off v.cells.toList).toArray := e
        rw [e']
        have ih := fill_fillL pl rest (splice cs.toList off v.cells.toList).toArray
        simpa using ih
def partsL (n : Nat) (ρ : Env) : List (Nat × Operand) → List (Nat × Value)
  | [] => []
  | (i, x) :: l => (i, ev n ρ x) :: partsL n ρ l
theorem vbd {zv : Value} {s by_ : Nat} {pl : List (Nat × Nat)} {parts : List (Nat × Operand)} {ps : List (Nat × Value)} {cs : List Value} (ht : structT P t = some pl) (hz : zeroT P t zv s by_) (hp : partsL n ρ parts = ps) (hf : fillL pl zv.cells.toList ps = some cs) : Val P w0 n ρ A ⟨dd, .build t parts.toArray, T, pos, af, g⟩ (.agg cs.toArray) := fun w _ => by
  unfold structT at ht
  split at ht
  · rename_i fs h1
    obtain ⟨i, h2, h3, _, _⟩ := hz
    have h5 := run_places (P := P) (w := w) fs.toList pl ht
    have h5' : (fs.mapM fun f => do pure (f.offset, ← sizeOf f.type) : Sem (Array (Nat × Nat))).run P w = .ok pl.toArray w := by
      rw [Array.mapM_eq_mapM_toList, Sem.run_map, h5]; rfl
    have hpl : ∀ l : List (Nat × Operand), l.map (fun p => (p.1, ev n ρ p.2)) = partsL n ρ l := by
      intro l; induction l with
      | nil => rfl
      | cons x l ih => simp [partsL, ih]
    have hp' : (parts.toArray.map fun (i, x) => (i, ev n ρ x)).toList = ps := by rw [← hp, ← hpl]; simp
    simp only [execOp, Instr.build, Sem.run_bind, run_underlying h1, Result.andThen_ok, zeroValue, typeInfo, run_program, h2, Sem.run_pure, h3, h5', hp', fill_fillL, hf, Option.map_some]
  · cases ht
/-! tests that part the walk -/
theorem svs {p : Prop} [Decidable p] (hv : Val P w0 n ρ A ⟨some d, op, T, pos, af, none⟩ (.bool (decide p))) (ht : p → WL P w0 n ops Q rest (set ρ d (.bool true)) A) (hf : ¬ p → WL P w0 n ops Q rest (set ρ d (.bool false)) A) :
    WL P w0 n ops Q (⟨some d, op, T, pos, af, none⟩ :: rest) ρ A := by
  by_cases h : p
  · exact sv hv (by simpa [h] using ht h)
  · exact sv hv (by simpa [h] using hf h)
theorem svsg {p : Prop} [Decidable p] (hg : yieldN n ρ ops gg = some gb) (hv : Val P w0 n ρ A ⟨some d, op, T, pos, af, some (gg, gb)⟩ (.bool (decide p))) (ht : p → WL P w0 n ops Q rest (set ρ d (.bool true)) A) (hf : ¬ p → WL P w0 n ops Q rest (set ρ d (.bool false)) A) :
    WL P w0 n ops Q (⟨some d, op, T, pos, af, some (gg, gb)⟩ :: rest) ρ A := by
  by_cases h : p
  · exact svg hg hv (by simpa [h] using ht h)
  · exact svg hg hv (by simpa [h] using hf h)
theorem svb {p : Bool} (hv : Val P w0 n ρ A ⟨some d, op, T, pos, af, none⟩ (.bool p)) (ht : p = true → WL P w0 n ops Q rest (set ρ d (.bool true)) A) (hf : p = false → WL P w0 n ops Q rest (set ρ d (.bool false)) A) :
    WL P w0 n ops Q (⟨some d, op, T, pos, af, none⟩ :: rest) ρ A := by
  cases p
  · exact sv hv (hf rfl)
  · exact sv hv (ht rfl)
theorem svbg {p : Bool} (hg : yieldN n ρ ops gg = some gb) (hv : Val P w0 n ρ A ⟨some d, op, T, pos, af, some (gg, gb)⟩ (.bool p)) (ht : p = true → WL P w0 n ops Q rest (set ρ d (.bool true)) A) (hf : p = false → WL P w0 n ops Q rest (set ρ d (.bool false)) A) :
    WL P w0 n ops Q (⟨some d, op, T, pos, af, some (gg, gb)⟩ :: rest) ρ A := by
  cases p
  · exact svg hg hv (hf rfl)
  · exact svg hg hv (ht rfl)
theorem qvs {p : Prop} [Decidable p] (hv : Val P w0 n ρ A ⟨some d, op, T, pos, af, none⟩ (.bool (decide p))) (ht : p → WQ P w0 n ops Q rest (set ρ d (.bool true)) A) (hf : ¬ p → WQ P w0 n ops Q rest (set ρ d (.bool false)) A) :
    WQ P w0 n ops Q (⟨some d, op, T, pos, af, none⟩ :: rest) ρ A := by
  by_cases h : p
  · exact qv hv (by simpa [h] using ht h)
  · exact qv hv (by simpa [h] using hf h)
theorem qvsg {p : Prop} [Decidable p] (hg : yieldN n ρ ops gg = some gb) (hv : Val P w0 n ρ A ⟨some d, op, T, pos, af, some (gg, gb)⟩ (.bool (decide p))) (ht : p → WQ P w0 n ops Q rest (set ρ d (.bool true)) A) (hf : ¬ p → WQ P w0 n ops Q rest (set ρ d (.bool false)) A) :
    WQ P w0 n ops Q (⟨some d, op, T, pos, af, some (gg, gb)⟩ :: rest) ρ A := by
  by_cases h : p
  · exact qvg hg hv (by simpa [h] using ht h)
  · exact qvg hg hv (by simpa [h] using hf h)
theorem qvb {p : Bool} (hv : Val P w0 n ρ A ⟨some d, op, T, pos, af, none⟩ (.bool p)) (ht : p = true → WQ P w0 n ops Q rest (set ρ d (.bool true)) A) (hf : p = false → WQ P w0 n ops Q rest (set ρ d (.bool false)) A) :
    WQ P w0 n ops Q (⟨some d, op, T, pos, af, none⟩ :: rest) ρ A := by
  cases p
  · exact qv hv (hf rfl)
  · exact qv hv (ht rfl)
theorem qvbg {p : Bool} (hg : yieldN n ρ ops gg = some gb) (hv : Val P w0 n ρ A ⟨some d, op, T, pos, af, some (gg, gb)⟩ (.bool p)) (ht : p = true → WQ P w0 n ops Q rest (set ρ d (.bool true)) A) (hf : p = false → WQ P w0 n ops Q rest (set ρ d (.bool false)) A) :
    WQ P w0 n ops Q (⟨some d, op, T, pos, af, some (gg, gb)⟩ :: rest) ρ A := by
  cases p
  · exact qvg hg hv (hf rfl)
  · exact qvg hg hv (ht rfl)
end
/-- what is left over is let go -/
class Suff (A l : List HProp) : Prop where
  suf : ∀ w0 w, Own w0 A w → Own w0 l w
instance (priority := low) Suff.tail {X : HProp} {A l : List HProp} [h : Suff A l] : Suff (X :: A) l := ⟨fun w0 w H => h.suf w0 w H.tail⟩
instance Suff.refl {A : List HProp} : Suff A A := ⟨fun _ _ H => H⟩
theorem Own.suf {w0 w : World} {A l : List HProp} [h : Suff A l] (H : Own w0 A w) : Own w0 l w := h.suf _ _ H
section
variable {P : Program} {w0 : World} {n : Nat} {ops : Array Oper} {Q : Exit → Act → World → Prop} {ρ : Env} {A R : List HProp} {rest : List Oper} {T : TypeId} {pos : String} {af : Array Edge} {d gg : Nat} {gb : Bool} {op : Op} {dd : Option Tmp} {x : Operand}
/-- a guarded operation that is wanted -/
theorem gy (hg : yieldN n ρ ops gg = some gb) (h : WL P w0 n ops Q (⟨dd, op, T, pos, af, none⟩ :: rest) ρ A) : WL P w0 n ops Q (⟨dd, op, T, pos, af, some (gg, gb)⟩ :: rest) ρ A := by
  refine ⟨fun w hw => ?_⟩
  have h' := h.run w hw
  have hw' : Region.wanted ⟨dd, op, T, pos, af, some (gg, gb)⟩ (yielded ops (act n ρ).tmps) = true := by
    simp only [Region.wanted, act, yielded_arr, hg, beq_self_eq_true]
  unfold wpList at h' ⊢
  rw [if_pos hw']
  rw [if_pos (by simp [Region.wanted])] at h'
  exact h'
theorem made_u8 (k : Nat) : (madeCells (Value.int .u8 0).cells k).toList = List.replicate k (.int .u8 0) := made_rep rfl k
/-- []byte of a constant: the new array is marked behind its end -/
theorem cvm {t e : TypeId} {g l c : Nat} {vs : List Value} (ht : P.underlying t = some (.slice e)) (he : P.underlying e = some (.int .u8)) (hx : ev n ρ x = .slice (some ⟨g, 0, none⟩) l c)
    (h : WL P w0 n ops Q rest (set ρ d (.slice (some ⟨g, 0, none⟩) l c)) (cel g vs e :: R)) : WL P w0 n ops Q (⟨some d, .convert t t x, T, pos, af, none⟩ :: rest) ρ (cel g vs e :: R) :=
  WL.step rfl fun w hw => by
    obtain ⟨fz, hf, hO⟩ := hw.cel
    have hh := hO.heap.1
    obtain ⟨lo, hi⟩ := fz
    refine ⟨.value (.slice (some ⟨g, 0, none⟩) l c), w.freeze ⟨g, vs.length, none⟩ 1, _, _, ?_, put_act .., Own.intro_cel (fz := if lo = hi then (vs.length, vs.length + 1) else (min lo vs.length, max hi (vs.length + 1))) ?_ (hO.turned ?_), h⟩
    · have hs : w.shape? g = some (e, vs.length) := by simp [World.shape?, hh]
      simp [execOp, hx, convert, run_underlying ht, run_underlying he, markStringish, hs]
    · unfold NF at hf ⊢
      simp only at hf
      split <;> omega
    · refine ⟨rfl, rfl, rfl, by simp [World.freeze], ?_, fun k hk => ?_⟩
      · by_cases hlh : lo = hi <;> simp [World.freeze, Array.getElem?_modify, hh, hlh]
      · have : ¬ g = k := fun e => hk e.symm
        simp [World.freeze, Array.getElem?_modify, this]
end
/-- A slice's cells in an array of the call's own, from whatever place on. -/
def own (base : Option Addr) (e : TypeId) (vs : List Value) : HProp := fun h => (vs = [] ∧ emp h) ∨ ∃ g o cur, base = some ⟨g, o, none⟩ ∧ vs <+: cur.drop o ∧ cel g cur e h
section
variable {w0 w : World} {A R : List HProp} {base : Option Addr} {e : TypeId} {vs : List Value}
theorem Own.own (H : Own w0 (Sl.own base e vs :: R) w) : (vs = [] ∧ Own w0 R w) ∨ ∃ g o cur, base = some ⟨g, o, none⟩ ∧ vs <+: cur.drop o ∧ Own w0 (Sl.cel g cur e :: R) w := by
  obtain ⟨hb, h, ⟨h1, h2, a, a2, d, x⟩, hw⟩ := H
  rcases a with ⟨r1, _⟩ | ⟨g, o, cur, r1, r2, r3⟩
  · exact .inl ⟨r1, Own.tail (A := fun _ => True) ⟨hb, h, ⟨h1, h2, trivial, a2, d, x⟩, hw⟩⟩
  · exact .inr ⟨g, o, cur, r1, r2, hb, h, ⟨h1, h2, r3, a2, d, x⟩, hw⟩
theorem Own.intro_own {g o : Nat} {cur : List Value} (hp : vs <+: cur.drop o) (H : Own w0 (Sl.cel g cur e :: R) w) : Own w0 (Sl.own (some ⟨g, o, none⟩) e vs :: R) w := H.head fun _ h => .inr ⟨g, o, cur, rfl, hp, h⟩
theorem Own.intro_own_nil {base : Option Addr} (H : Own w0 R w) : Own w0 (Sl.own base e [] :: R) w := H.intro_emp.head fun _ h => .inl ⟨rfl, h⟩
instance Reads.own {w0 : World} {A : List HProp} {base : Option Addr} {e : TypeId} {vs : List Value} : Reads w0 (Sl.own base e vs :: A) base vs := ⟨fun w hw j v hv => by
  rcases hw.own with ⟨rfl, _⟩ | ⟨g, o, cur, rfl, hp, h⟩
  · simp at hv
  · exact RdC.of_cel (w0 := w0) (A := Sl.cel g cur e :: A) o (List.Mem.head _) hp w h j v hv⟩
theorem Own.own_slice (lo c : Nat) (hc : c = lo → vs.drop lo = []) (H : Own w0 (Sl.own base e vs :: R) w) : Own w0 (Sl.own (slB base lo c 1) e (vs.drop lo) :: R) w := by
  rcases H.own with ⟨rfl, h⟩ | ⟨g, o, cur, rfl, hp, h⟩
  · simpa using h.intro_own_nil
  · by_cases hcl : c = lo
    · rw [hc hcl]; exact h.tail.intro_own_nil
    · unfold slB
      rw [if_neg hcl]
      simp only [Option.map_some, add_at, Nat.mul_one]
      refine h.intro_own ?_
      rw [← List.drop_drop]
      obtain ⟨t, ht⟩ := hp
      by_cases hl : lo ≤ vs.length
      · exact ⟨t, by rw [← ht, List.drop_append_of_le_length hl]⟩
      · rw [List.drop_eq_nil_of_le (by omega)]; exact List.nil_prefix
theorem Own.row_own {c s : Nat} (H : Own w0 (Sl.row base c s e vs :: R) w) : Own w0 (Sl.own base e vs :: R) w := by
  rcases H.row with ⟨rfl, rfl, _, h⟩ | ⟨g, o, cur, rfl, hp, _, _, h⟩
  · exact h.intro_own_nil
  · exact h.intro_own (by simpa using hp)
end
section
variable {P : Program} {w0 : World} {A : List HProp} {f : FuncId} {args : List Value} {R : Ending → World → Prop} {n : Nat} {ρ : Env} {c : Code} {Q : Exit → Act → World → Prop} {ops : Array Oper} {l : List Oper}
/-- what a chunk hides is named -/
theorem Fun.ex {ι : Type} {B : ι → List HProp} {q : ι → Prop} (hA : ∀ w, Own w0 A w → ∃ i, q i ∧ Own w0 (B i) w) (h : ∀ i, q i → Fun P w0 f args (B i) R) : Fun P w0 f args A R := ⟨fun w hw => by
  obtain ⟨i, hi, hO⟩ := hA w hw
  exact (h i hi).run w hO⟩
theorem WC.ex {ι : Type} {B : ι → List HProp} {q : ι → Prop} (hA : ∀ w, Own w0 A w → ∃ i, q i ∧ Own w0 (B i) w) (h : ∀ i, q i → WC P w0 n c Q ρ (B i)) : WC P w0 n c Q ρ A := ⟨fun w hw => by
  obtain ⟨i, hi, hO⟩ := hA w hw
  exact (h i hi).run w hO⟩
theorem WL.ex {ι : Type} {B : ι → List HProp} {q : ι → Prop} (hA : ∀ w, Own w0 A w → ∃ i, q i ∧ Own w0 (B i) w) (h : ∀ i, q i → WL P w0 n ops Q l ρ (B i)) : WL P w0 n ops Q l ρ A := ⟨fun w hw => by
  obtain ⟨i, hi, hO⟩ := hA w hw
  exact (h i hi).run w hO⟩
end
/-! rows of bytes -/
section
variable {P : Program} {w0 : World} {n : Nat} {ops : Array Oper} {Q : Exit → Act → World → Prop} {ρ : Env} {A A' R : List HProp} {rest : List Oper} {T T2 : TypeId} {pos pos2 : String} {af af2 : Array Edge} {d d1 : Nat} {x y : Operand} {t t2 e : TypeId} {base b2 : Option Addr} {l c m c2 : Nat} {xs ys : List UInt8}
theorem pm (hA : ∀ w, Own w0 A w → Own w0 A' w) (h : WL P w0 n ops Q rest ρ A') : WL P w0 n ops Q rest ρ A := h.perm hA
theorem cm {k : Code} (hA : ∀ w, Own w0 A w → Own w0 A' w) (h : WC P w0 n k Q ρ A') : WC P w0 n k Q ρ A := h.perm hA
theorem apb (ht : P.underlying t = some (.slice e)) (hz : zeroT P e (.int .u8 0) 1 1) (hx : ev n ρ x = .slice base l c) (hy : ev n ρ y = .slice b2 m c2) (hl : l = xs.length) (hm : m = ys.length) (hR : RdC w0 (row base c 1 e (u8s xs) :: R) b2 (u8s ys)) (h63 : l + m ≤ 140737488355328)
    (h : ∀ base' c', l + m ≤ c' → WL P w0 n ops Q rest (set ρ d (.slice base' (l + m) c')) (row base' c' 1 e (u8s (xs ++ ys)) :: R)) :
    WL P w0 n ops Q (⟨some d, .call ⟨.builtin .append, #[x, y], #[t, t]⟩, T, pos, af, none⟩ :: rest) ρ (row base c 1 e (u8s xs) :: R) :=
  ap rfl ht hz rfl hx hy (by simp [hl]) (by simp [hm]) (u8s_one ys) hR (by simp only [maxLen]; omega) (by omega) fun base' c' hc => by rw [← u8s_append]; exact h base' c' hc
theorem apsb {str : ByteArray} (ht : P.underlying t = some (.slice e)) (h2 : srcT P t2) (hz : zeroT P e (.int .u8 0) 1 1) (hx : ev n ρ x = .slice base l c) (hy : ev n ρ y = .string str) (hl : l = xs.length) (h63 : l + str.size ≤ 140737488355328)
    (h : ∀ base' c', l + str.size ≤ c' → WL P w0 n ops Q rest (set ρ d (.slice base' (l + str.size) c')) (row base' c' 1 e (u8s (xs ++ str.data.toList)) :: R)) :
    WL P w0 n ops Q (⟨some d, .call ⟨.builtin .append, #[x, y], #[t, t2]⟩, T, pos, af, none⟩ :: rest) ρ (row base c 1 e (u8s xs) :: R) :=
  aps ht h2 hz rfl hx hy (by simp [hl]) (by simp only [maxLen]; omega) (by omega) fun base' c' hc => by rw [← u8s_append]; exact h base' c' hc
/-- an empty slice literal of bytes -/
theorem bsl0 (ht : P.underlying t = some (.slice e)) (hz : zeroT P e (.int .u8 0) 1 1)
    (h : ∀ g, WL P w0 n ops Q rest (set ρ d (.slice (some ⟨g, 0, none⟩) 0 0)) (row (some ⟨g, 0, none⟩) 0 1 e (u8s []) :: A)) :
    WL P w0 n ops Q (⟨some d, .buildSlice t 0 #[], T, pos, af, none⟩ :: rest) ρ A :=
  bsl_core [] ht hz rfl (by simp [enumP]) (by simp) (by simp) fun g => pm (fun w hw => hw.cel_row (by simp) (by simp [maxLen])) (h g)
end
/-- a quiet call, its chunks in another order -/
theorem Fun.qpm {P : Program} {w0 : World} {f : FuncId} {args : List Value} {A A' : List HProp} {v : Value} (h1 : ∀ w, Own w0 A w → Own w0 A' w) (h2 : ∀ w, Own w0 A' w → Own w0 A w) (h : Fun P w0 f args A' (Ret w0 (fun _ : Unit => True) (fun _ => v) (fun _ => A'))) :
    Fun P w0 f args A (Ret w0 (fun _ : Unit => True) (fun _ => v) (fun _ => A)) := (h.perm h1).mono fun e w ⟨i, hi, he, hO⟩ => ⟨i, hi, he, h2 w hO⟩
theorem bT {E : Prop} [Decidable E] (h : E) : Value.bool true = .bool (decide E) := by simp [h]
theorem bF {E : Prop} [Decidable E] (h : ¬ E) : Value.bool false = .bool (decide E) := by simp [h]
theorem bI {E q : Prop} [Decidable E] [Decidable q] (h : q ↔ E) : Value.bool (decide q) = .bool (decide E) := by simp [h]
theorem bB {E : Prop} [Decidable E] {q : Bool} (h : q = true ↔ E) : Value.bool q = .bool (decide E) := by
  cases q
  · simp at h; simp [h]
  · simp at h; simp [h]
theorem iv {k : IntKind} {a b : Int} (h : a = b) : Value.int k a = .int k b := by rw [h]
section
variable {P : Program} {w0 : World} {n : Nat} {ops : Array Oper} {Q : Exit → Act → World → Prop} {ρ : Env} {A R : List HProp} {rest : List Oper} {T : TypeId} {pos : String} {af : Array Edge} {t e : TypeId}
/-- a slice literal of bytes that are constants -/
theorem bslb {d k : Nat} {parts : Array (Nat × Operand)} (bs : List UInt8) (hk : k = (u8s bs).length) (ht : P.underlying t = some (.slice e)) (hz : zeroT P e (.int .u8 0) 1 1) (hp : (parts.map fun (i, x) => (i, ev n ρ x)) = (enumP 0 (u8s bs)).toArray) (hl : bs.length ≤ 1000)
    (h : ∀ g, WL P w0 n ops Q rest (set ρ d (.slice (some ⟨g, 0, none⟩) k k)) (cel g (u8s bs) e :: A)) :
    WL P w0 n ops Q (⟨some d, .buildSlice t k parts, T, pos, af, none⟩ :: rest) ρ A :=
  bsl_core (u8s bs) ht hz hk hp (fun v hv => by simp only [u8s, List.mem_map] at hv; obtain ⟨c, _, rfl⟩ := hv; rfl) (by simpa using hl) (fun g => by rw [← hk]; exact h g)
end
section
variable {P : Program} {w0 : World} {n : Nat} {Q : Exit → Act → World → Prop} {ρ : Env} {A : List HProp} {x y : Code}
/-- a cut whose kept values are those of the frame -/
theorem WC.cutv {ι : Type} (C : ι → List (Nat × Value)) (V : List (Nat × Value)) (B : ι → List HProp) (R : ι → Prop) (_ : AllC V ρ)
    (hx : WC P w0 n x (Exit.then (Mid w0 n C V B R) Q) ρ A)
    (hy : ∀ i, R i → ∀ ρh, WC P w0 n y Q (setL (C i) (setL V ρh)) (B i)) : WC P w0 n (.seq x y) Q ρ A := WC.cut C V B R hx hy
end
section
variable {P : Program} {w0 : World} {n : Nat} {ops : Array Oper} {Q : Exit → Act → World → Prop} {ρ : Env} {A : List HProp} {rest : List Oper} {T t : TypeId} {pos : String} {af : Array Edge}
/-- a new variable, its cells given -/
theorem alz {z : Value} {s by_ d : Nat} {cs : List Value} (hz : zeroT P t z s by_) (hc : z.cells.toList = cs) (h : ∀ b, WL P w0 n ops Q rest (set ρ d (.pointer (some ⟨b, 0, none⟩))) (cel b cs t :: A)) : WL P w0 n ops Q (⟨some d, .alloc t, T, pos, af, none⟩ :: rest) ρ A := by
  obtain ⟨i, hi, hz', _, _⟩ := hz
  subst hc
  exact al hi hz' h
/-- a value boxed, its cells given -/
theorem bxc {x : Operand} {v : Value} {d : Nat} {cs : List Value} (hx : ev n ρ x = v) (hc : v.cells.toList = cs) (h : ∀ b, WL P w0 n ops Q rest (set ρ d (.pointer (some ⟨b, 0, none⟩))) (cel b cs t :: A)) : WL P w0 n ops Q (⟨some d, .box t x, T, pos, af, none⟩ :: rest) ρ A := by
  subst hc
  exact bx hx h
end
section
variable {P : Program} {w0 : World} {n : Nat} {ops : Array Oper} {Q : Exit → Act → World → Prop} {ρ : Env} {A R : List HProp} {rest : List Oper} {T : TypeId} {pos : String} {af : Array Edge} {d : Nat} {x y : Operand} {t e : TypeId} {base b2 : Option Addr} {l m c2 : Nat} {xs ys : List UInt8}
/-- append of bytes to a slice that has no room: the sum is read from a new array, or, if nothing was appended, from the old one -/
theorem apf (ht : P.underlying t = some (.slice e)) (hz : zeroT P e (.int .u8 0) 1 1) (hx : ev n ρ x = .slice base l l) (hy : ev n ρ y = .slice b2 m c2) (hX : RdC w0 A base (u8s xs)) (hl : l = xs.length) (hR : RdC w0 A b2 (u8s ys)) (hm : m = ys.length) (h63 : l + m ≤ 140737488355328)
    (h : ∀ base' c' X, l + m ≤ c' → RdC w0 (X :: A) base' (u8s (xs ++ ys)) → WL P w0 n ops Q rest (set ρ d (.slice base' (l + m) c')) (X :: A)) :
    WL P w0 n ops Q (⟨some d, .call ⟨.builtin .append, #[x, y], #[t, t]⟩, T, pos, af, none⟩ :: rest) ρ A := by
  rcases Nat.eq_zero_or_pos m with h0 | h0
  · subst h0
    have hn : ys = [] := List.eq_nil_of_length_eq_zero hm.symm
    subst hn
    refine WL.step rfl fun w hw => ?_
    obtain ⟨i, hi, hzz, hs1, hb1⟩ := hz
    have hlen : (Builtin.lenOf (.slice b2 0 c2)).run P w = .ok 0 w := by simp [Builtin.lenOf]
    have hfc := run_firstCells_rd (P := P) (c := c2) (s := 1) (m := 0) hR (by simp [u8s]) hw (l := 0)
    have hr : (Builtin.append_ #[t, t] T #[.slice base l l, .slice b2 0 c2]).run P w = .ok (.slice base (l + 0) l) w := by
      cases base <;> simp [Builtin.append_, run_underlying ht, sizeOf, typeInfo, hi, hlen, hfc, hs1, u8s, storeCells]
    exact ⟨.value (.slice base (l + 0) l), w, _, _, by simp [execOp, resolve, invoke, builtin, hx, hy, hr], put_act .., hw.intro_emp, h base l emp (by omega) (by rw [List.append_nil]; exact hX.cons)⟩
  · exact apn (s := 1) (vs := u8s xs) (news := u8s ys) rfl ht hz rfl hx hy (by simp [hl]) (by simp [hm]) hX hR (by omega) (by simp only [maxLen]; omega) (by omega) fun base' c' hc => by
      rw [← u8s_append]
      exact h base' c' _ hc (RdC.of_row (List.Mem.head _))
/-- a slice literal of computed one-cell elements -/
theorem bsln {z : Value} {by_ : Nat} {parts : List (Nat × Operand)} {len : Nat} (xs : List Value) (ht : P.underlying t = some (.slice e)) (hz : zeroT P e z 1 by_) (hlen : len = xs.length) (hp : parts.map (fun p => (p.1, ev n ρ p.2)) = enumP 0 xs)
    (hx : ∀ v ∈ xs, v.cells = #[v]) (hl : xs.length ≤ 1000)
    (h : ∀ g, WL P w0 n ops Q rest (set ρ d (.slice (some ⟨g, 0, none⟩) len len)) (cel g xs e :: A)) :
    WL P w0 n ops Q (⟨some d, .buildSlice t len parts.toArray, T, pos, af, none⟩ :: rest) ρ A :=
  bsl_core xs ht hz hlen (by rw [← hp]; simp) hx hl (fun g => by rw [← hlen]; exact h g)
end
end Go.Sl
