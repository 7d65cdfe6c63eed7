/-
  Making, appending, copying; bytes and strings: rules over the heap logic. Plain theorems over any program.
-/
import Derived.Test.YthljpljbpbkkcaaDoorSlOps
import Derived.Laws.IdiomStrings
import Derived.Laws.BytesArg
set_option linter.unusedVariables false
set_option linter.unusedSimpArgs false
namespace Go.Sl
open Go.RowKit

/-! ### Bytes -/
def u8v (c : UInt8) : Value := .int .u8 (c.toNat : Int)
def u8s (bs : List UInt8) : List Value := bs.map u8v
@[simp] theorem u8s_length (bs : List UInt8) : (u8s bs).length = bs.length := by simp [u8s]
theorem u8s_append (a b : List UInt8) : u8s (a ++ b) = u8s a ++ u8s b := by simp [u8s]
theorem u8s_take (a : List UInt8) (k : Nat) : (u8s a).take k = u8s (a.take k) := by simp [u8s]
theorem u8s_drop (a : List UInt8) (k : Nat) : (u8s a).drop k = u8s (a.drop k) := by simp [u8s]
theorem u8s_get {bs : List UInt8} {i : Nat} {c : UInt8} (h : bs[i]? = some c) : (u8s bs)[i]? = some (u8v c) := by simp [u8s, h]
theorem u8s_at {bs : List UInt8} {i : Nat} (h : i < bs.length) : (u8s bs)[i]? = some (u8v bs[i]) := by simp [u8s, h]
theorem u8s_one (bs : List UInt8) : ∀ v ∈ u8s bs, v.oneCell' = true := by
  intro v hv
  obtain ⟨c, _, rfl⟩ := List.mem_map.1 hv
  rfl
theorem u8v_inj {a b : UInt8} (h : u8v a = u8v b) : a = b := by
  simp only [u8v, Value.int.injEq, true_and] at h
  exact UInt8.toNat_inj.1 (by omega)
theorem u8s_inj {a b : List UInt8} (h : u8s a = u8s b) : a = b := by
  induction a generalizing b with
  | nil => cases b with
    | nil => rfl
    | cons _ _ => simp [u8s] at h
  | cons x l ih => cases b with
    | nil => simp [u8s] at h
    | cons y r =>
      simp only [u8s, List.map_cons, List.cons.injEq] at h
      rw [u8v_inj h.1, ih h.2]

/-! ### A slice's own array -/
/-- The slice with this base and capacity owns its array, whose first cells are vs; s cells an element of type e. -/
def row (base : Option Addr) (c s : Nat) (e : TypeId) (vs : List Value) : HProp := fun h =>
  (base = none ∧ vs = [] ∧ c = 0 ∧ emp h) ∨ ∃ g o cur, base = some ⟨g, o, none⟩ ∧ vs <+: cur.drop o ∧ (vs.length ≤ c * s ∧ o + c * s ≤ cur.length) ∧ c ≤ maxLen ∧ cel g cur e h
section
variable {w0 w : World} {A R : List HProp} {base : Option Addr} {c s : Nat} {e : TypeId} {vs : List Value}
theorem Own.row (H : Own w0 (row base c s e vs :: R) w) : (base = none ∧ vs = [] ∧ c = 0 ∧ Own w0 R w) ∨ ∃ g o cur, base = some ⟨g, o, none⟩ ∧ vs <+: cur.drop o ∧ (vs.length ≤ c * s ∧ o + c * s ≤ cur.length) ∧ c ≤ maxLen ∧ Own w0 (Sl.cel g cur e :: R) w := by
  obtain ⟨hb, h, ⟨h1, h2, a, a2, d, x⟩, hw⟩ := H
  rcases a with ⟨r1, r2, r3, _⟩ | ⟨g, o, cur, r1, r2, r3, r4, r5⟩
  · exact .inl ⟨r1, r2, r3, Own.tail (A := fun _ => True) ⟨hb, h, ⟨h1, h2, trivial, a2, d, x⟩, hw⟩⟩
  · exact .inr ⟨g, o, cur, r1, r2, r3, r4, hb, h, ⟨h1, h2, r5, a2, d, x⟩, hw⟩
theorem Own.intro_rowo {g o : Nat} {cur : List Value} (hp : vs <+: cur.drop o) (hl : vs.length ≤ c * s ∧ o + c * s ≤ cur.length) (hc : c ≤ maxLen) (H : Own w0 (Sl.cel g cur e :: R) w) : Own w0 (Sl.row (some ⟨g, o, none⟩) c s e vs :: R) w :=
  H.head fun _ h => .inr ⟨g, o, cur, rfl, hp, hl, hc, h⟩
theorem Own.intro_rowc {g : Nat} {cur : List Value} (hp : vs <+: cur) (hl : vs.length ≤ c * s ∧ c * s ≤ cur.length) (hc : c ≤ maxLen) (H : Own w0 (Sl.cel g cur e :: R) w) : Own w0 (Sl.row (some ⟨g, 0, none⟩) c s e vs :: R) w :=
  H.intro_rowo (by simpa using hp) (by simpa using hl) hc
theorem Own.intro_row {g : Nat} {cur : List Value} (hp : vs <+: cur) (hl : cur.length = c * s) (hc : c ≤ maxLen) (H : Own w0 (Sl.cel g cur e :: R) w) : Own w0 (Sl.row (some ⟨g, 0, none⟩) c s e vs :: R) w :=
  H.intro_rowc hp ⟨hl ▸ hp.length_le, Nat.le_of_eq hl.symm⟩ hc
theorem Own.intro_row_nil (H : Own w0 R w) : Own w0 (Sl.row none 0 s e [] :: R) w := H.intro_emp.head fun _ h => .inl ⟨rfl, rfl, rfl, h⟩
theorem RdC.of_row (hm : row base c s e vs ∈ A) : RdC w0 A base vs := fun w hw j v hv => by
  obtain ⟨R, h⟩ := hw.mem hm
  rcases h.row with ⟨_, rfl, _⟩ | ⟨g, o, cur, rfl, hp, _, _, h⟩
  · simp at hv
  · exact RdC.of_cel (w0 := w0) (A := Sl.cel g cur e :: R) o (List.Mem.head _) hp w h j v hv
theorem row_le (H : Own w0 (row base c s e vs :: R) w) : vs.length ≤ c * s ∧ c ≤ maxLen := by
  rcases H.row with ⟨_, rfl, rfl, _⟩ | ⟨g, o, cur, _, hp, hl, hc, _⟩
  · simp [maxLen]
  · exact ⟨hl.1, hc⟩
/-- less is known -/
theorem Own.row_prefix {ws : List Value} (hp : ws <+: vs) (H : Own w0 (Sl.row base c s e vs :: R) w) : Own w0 (Sl.row base c s e ws :: R) w := H.head fun h a => by
  rcases a with ⟨r1, r2, r3, r4⟩ | ⟨g, o, cur, r1, r2, r3⟩
  · subst r2; exact .inl ⟨r1, List.prefix_nil.1 hp, r3, r4⟩
  · exact .inr ⟨g, o, cur, r1, hp.trans r2, ⟨Nat.le_trans hp.length_le r3.1.1, r3.1.2⟩, r3.2⟩
/-- what lies behind is let go, the room cut: base[:k:k] -/
theorem Own.row_cut {k : Nat} (hk : k ≤ c) (hs : k * s ≤ vs.length) (H : Own w0 (Sl.row base c s e vs :: R) w) : Own w0 (Sl.row base k s e (vs.take (k * s)) :: R) w := H.head fun h a => by
  rcases a with ⟨r1, r2, r3, r4⟩ | ⟨g, o, cur, r1, r2, r3, r5, r6⟩
  · subst r2; subst r3; exact .inl ⟨r1, by simp, by omega, r4⟩
  · exact .inr ⟨g, o, cur, r1, (List.take_prefix _ _).trans r2, ⟨by rw [List.length_take]; exact Nat.min_le_left _ _, Nat.le_trans (Nat.add_le_add_left (Nat.mul_le_mul_right s hk) o) r3.2⟩, Nat.le_trans hk r5, r6⟩
/-- what lies ahead is let go: base[k:] -/
theorem Own.row_drop {k : Nat} (hk : k ≤ c) (H : Own w0 (Sl.row base c s e vs :: R) w) : Own w0 (Sl.row (slB base k c s) (c - k) s e (vs.drop (k * s)) :: R) w := H.head fun h a => by
  rcases a with ⟨r1, r2, r3, r4⟩ | ⟨g, o, cur, r1, r2, r3, r5, r6⟩
  · subst r1; subst r2; subst r3
    refine .inl ⟨?_, by simp, by omega, r4⟩
    unfold slB; split <;> rfl
  · subst r1
    unfold slB
    split
    · rename_i hck
      subst hck
      refine .inr ⟨g, o, cur, rfl, ?_, ⟨by rw [List.length_drop]; have := r3.1; simp; omega, by have := r3.2; simp; omega⟩, by omega, r6⟩
      rw [List.drop_eq_nil_of_le r3.1]; exact List.nil_prefix
    · refine .inr ⟨g, o + k * s, cur, by simp only [Option.map_some, add_at], ?_, ⟨?_, ?_⟩, by omega, r6⟩
      · rw [← List.drop_drop]
        obtain ⟨tl, htl⟩ := r2
        by_cases hn : k * s ≤ vs.length
        · exact ⟨tl, by rw [← htl, List.drop_append_of_le_length hn]⟩
        · rw [List.drop_eq_nil_of_le (by omega)]; exact List.nil_prefix
      · rw [List.length_drop, Nat.sub_mul]; have := r3.1; omega
      · have h1 := Nat.mul_le_mul_right s hk
        rw [Nat.sub_mul]; have := r3.2; omega
theorem Own.cel_row {g : Nat} (hl : vs.length = c * s) (hc : c ≤ maxLen) (H : Own w0 (Sl.cel g vs e :: R) w) : Own w0 (Sl.row (some ⟨g, 0, none⟩) c s e vs :: R) w := H.intro_row (List.prefix_refl _) hl hc
end

theorem row_cap {w0 w : World} {R : List HProp} {base : Option Addr} {c s l m : Nat} {e : TypeId} {vs news : List Value} (hs : 0 < s) (hl : vs.length = l * s) (hm : news.length = m * s) (H : Own w0 (row base c s e (vs ++ news) :: R) w) : l + m ≤ c := by
  have := (row_le H).1
  rw [List.length_append, hl, hm, ← Nat.add_mul] at this
  exact Nat.le_of_mul_le_mul_right this hs
def zeroT (P : Program) (e : TypeId) (z : Value) (s by_ : Nat) : Prop := ∃ i, P.info? e = some i ∧ i.zero = some z ∧ i.size = s ∧ i.bytes = by_
theorem zeroT_of {P : Program} {e : TypeId} {z : Value} {s b : Nat} (h : (P.info? e).map (fun i => (i.zero, i.size, i.bytes)) = some (some z, s, b)) : zeroT P e z s b := by
  cases hi : P.info? e with
  | none => simp [hi] at h
  | some i => simp [hi] at h; exact ⟨i, hi, h.1, h.2.1, h.2.2⟩
def srcT (P : Program) (t : TypeId) : Prop := P.underlying t = some .string ∨ ∃ e, P.underlying t = some (.slice e)
section
variable {P : Program} {w0 : World} {R : List HProp}
theorem zeroCells_length (z : Array Value) (n : Nat) : (Builtin.zeroCells z n).toList.length = n * z.size := by simp [Builtin.zeroCells]
/-- append: the source's length and cells are read in any world of the class. -/
theorem run_append_row {t t2 ty e : TypeId} {z : Value} {s by_ : Nat} (ht : P.underlying t = some (.slice e)) (h2 : srcT P t2) (hz : zeroT P e z s by_) (hzs : z.cells.size = s)
    {base : Option Addr} {l c m : Nat} {vs news : List Value} {y : Value} (hl : vs.length = l * s) (hm : news.length = m * s) (h1 : ∀ v ∈ news, v.oneCell' = true)
    (hlen : ∀ w, (Builtin.lenOf y).run P w = .ok m w) (hsrc : ∀ w, Own w0 (row base c s e vs :: R) w → (Builtin.firstCells s m y).run P w = .ok news.toArray w)
    (h63 : l + m ≤ maxLen) (hby : (l + m) * by_ ≤ 140737488355328) {w : World} (hw : Own w0 (row base c s e vs :: R) w) :
    ∃ base' c' w', (Builtin.append_ #[t, t2] ty #[.slice base l c, y]).run P w = .ok (.slice base' (l + m) c') w' ∧ Own w0 (row base' c' s e (vs ++ news) :: R) w' := by
  obtain ⟨i, hi, hz, rfl, rfl⟩ := hz
  have hfc := hsrc w hw
  by_cases hroom : l + m ≤ c
  · rcases hw.row with ⟨rfl, rfl, rfl, hO⟩ | ⟨g, o, cur, rfl, hp, hcl, hc, hO⟩
    · have hl0 : l = 0 := by omega
      have hm0 : m = 0 := by omega
      subst hl0; subst hm0
      have hn : news = [] := List.eq_nil_of_length_eq_zero (by simpa using hm)
      subst hn
      refine ⟨none, 0, w, ?_, by simpa using hw⟩
      rcases h2 with h2 | ⟨e2, h2⟩ <;> simp [Builtin.append_, run_underlying ht, run_underlying h2, sizeOf, typeInfo, hi, hlen, hfc]
    · obtain ⟨fz, hf, hO1⟩ := hO.cel
      have hfit0 : l * i.size + news.length ≤ c * i.size := by rw [hm, ← Nat.add_mul]; exact Nat.mul_le_mul_right _ hroom
      have hfit : o + l * i.size + news.length ≤ cur.length := by have := hcl.2; omega
      obtain ⟨w', hr, hT⟩ := run_storeCells_cel (P := P) (o := o + l * i.size) news 0 cur w hO1.heap.1 hf (by simpa using hfit) h1
      refine ⟨_, c, w', ?_, Own.intro_rowo (cur := splice cur (o + l * i.size) news) ?_ ⟨by rw [List.length_append, hl]; exact hfit0, by rw [splice_length hfit]; exact hcl.2⟩ hc (Own.intro_cel (fz := fz) (by rw [splice_length hfit]; exact hf) (hO1.turned (by simpa using hT)))⟩
      · rcases h2 with h2 | ⟨e2, h2⟩ <;> simp [Builtin.append_, run_underlying ht, run_underlying h2, sizeOf, typeInfo, hi, hlen, hfc, hroom, add_at, hr]
      · have h3 : (cur.drop o).take (l * i.size) = vs := by rw [← hl]; exact (List.prefix_iff_eq_take.1 hp).symm
        have h4 : (cur.take (o + l * i.size)).length = o + l * i.size := by rw [List.length_take]; omega
        unfold splice
        rw [List.append_assoc, List.drop_append_of_le_length (by rw [h4]; omega), List.drop_take, Nat.add_sub_cancel_left, h3, ← List.append_assoc]
        exact List.prefix_append _ _
  · have h63' : ¬ ((9223372036854775807 : Int) < (l : Int) + (m : Int)) := by simp only [maxLen] at h63; omega
    have hfit := growslice_fits (need := l + m) (old := c) (bytes := i.bytes) (by omega) hby
    have h48' : ¬ (281474976710656 < Builtin.nextslicecap (l + m) c * i.bytes) := by omega
    have hold : (Builtin.firstCells i.size l (.slice base l c)).run P w.drew = .ok vs.toArray w.drew := by
      have hR := RdC.of_row (w0 := w0) (A := row base c i.size e vs :: R) (List.Mem.head _) w hw
      cases base with
      | none =>
        have : vs = [] := by
          cases vs with
          | nil => rfl
          | cons v vs => obtain ⟨a, ha, _⟩ := hR 0 v rfl; cases ha
        subst this
        exact run_firstCells_none _ _ _ _ _
      | some a => exact run_firstCells_some _ i.size l a l c vs hl (fun j v hv => by obtain ⟨a', ha, hc'⟩ := hR j v hv; cases ha; simpa using hc')
    have hnew := hsrc w.drew hw.drew
    have hge := grownCap_ge w (l + m) c e
    have hcm : grownCap w (l + m) c e ≤ maxLen := grownCap_le_maxLen w (l + m) c e h63
    refine ⟨some ⟨w.heap.size, 0, none⟩, grownCap w (l + m) c e, w.drew.alloc (.cells (vs ++ news ++ (Builtin.zeroCells z.cells (grownCap w (l + m) c e - (l + m))).toList).toArray e), ?_, ?_⟩
    · rcases h2 with h2 | ⟨e2, h2⟩ <;> simp [Builtin.append_, run_underlying ht, run_underlying h2, sizeOf, typeInfo, zeroValue, hi, hz, hlen, hroom, h63', h48', Question.forced, hold, hnew, newRow, grownCap] <;> (congr 2; apply Array.ext'; simp)
    · have hO : Own w0 R w.drew := hw.drew.tail
      have := (hO.alloc (.cells (vs ++ news ++ (Builtin.zeroCells z.cells (grownCap w (l + m) c e - (l + m))).toList).toArray e)).intro_cel (NF.zero _)
      refine Own.intro_row (List.prefix_append _ _) ?_ hcm this
      simp only [List.length_append, zeroCells_length, hl, hm, hzs, ← Nat.add_mul]
      congr 1
      omega
/-- append where there is no room: what was there is read alone. -/
theorem run_append_new {t t2 ty e : TypeId} {z : Value} {s by_ : Nat} (ht : P.underlying t = some (.slice e)) (h2 : srcT P t2) (hz : zeroT P e z s by_) (hzs : z.cells.size = s)
    {base : Option Addr} {l c m : Nat} {vs news : List Value} {y : Value} (hl : vs.length = l * s) (hm : news.length = m * s)
    (hlen : ∀ w, (Builtin.lenOf y).run P w = .ok m w) (hsrc : ∀ w, Own w0 R w → (Builtin.firstCells s m y).run P w = .ok news.toArray w) (hR : RdC w0 R base vs) (hroom : c < l + m)
    (h63 : l + m ≤ maxLen) (hby : (l + m) * by_ ≤ 140737488355328) {w : World} (hw : Own w0 R w) :
    ∃ base' c' w', (Builtin.append_ #[t, t2] ty #[.slice base l c, y]).run P w = .ok (.slice base' (l + m) c') w' ∧ Own w0 (row base' c' s e (vs ++ news) :: R) w' := by
  obtain ⟨i, hi, hz, rfl, rfl⟩ := hz
  have hroom' : ¬ l + m ≤ c := by omega
  have h63' : ¬ ((9223372036854775807 : Int) < (l : Int) + (m : Int)) := by simp only [maxLen] at h63; omega
  have hfit := growslice_fits (need := l + m) (old := c) (bytes := i.bytes) (by omega) hby
  have h48' : ¬ (281474976710656 < Builtin.nextslicecap (l + m) c * i.bytes) := by omega
  have hold : (Builtin.firstCells i.size l (.slice base l c)).run P w.drew = .ok vs.toArray w.drew := by
    have hR := hR w hw
    cases base with
    | none =>
      have : vs = [] := by
        cases vs with
        | nil => rfl
        | cons v vs => obtain ⟨a, ha, _⟩ := hR 0 v rfl; cases ha
      subst this
      exact run_firstCells_none _ _ _ _ _
    | some a => exact run_firstCells_some _ i.size l a l c vs hl (fun j v hv => by obtain ⟨a', ha, hc'⟩ := hR j v hv; cases ha; simpa using hc')
  have hnew := hsrc w.drew hw.drew
  have hge := grownCap_ge w (l + m) c e
  have hcm : grownCap w (l + m) c e ≤ maxLen := grownCap_le_maxLen w (l + m) c e h63
  refine ⟨some ⟨w.heap.size, 0, none⟩, grownCap w (l + m) c e, w.drew.alloc (.cells (vs ++ news ++ (Builtin.zeroCells z.cells (grownCap w (l + m) c e - (l + m))).toList).toArray e), ?_, ?_⟩
  · rcases h2 with h2 | ⟨e2, h2⟩ <;> simp [Builtin.append_, run_underlying ht, run_underlying h2, sizeOf, typeInfo, zeroValue, hi, hz, hlen, hroom', h63', h48', Question.forced, hold, hnew, newRow, grownCap] <;> (congr 2; apply Array.ext'; simp)
  · have hO : Own w0 R w.drew := hw.drew
    have := (hO.alloc (.cells (vs ++ news ++ (Builtin.zeroCells z.cells (grownCap w (l + m) c e - (l + m))).toList).toArray e)).intro_cel (NF.zero _)
    refine Own.intro_row (List.prefix_append _ _) ?_ hcm this
    simp only [List.length_append, zeroCells_length, hl, hm, hzs, ← Nat.add_mul]
    congr 1
    omega
theorem run_firstCells_rd {A : List HProp} {base : Option Addr} {m c s : Nat} {news : List Value} (hR : RdC w0 A base news) (hm : news.length = m * s) {w : World} (hw : Own w0 A w) {l : Nat} :
    (Builtin.firstCells s m (.slice base l c)).run P w = .ok news.toArray w := by
  have hR := hR w hw
  cases base with
  | none =>
    have : news = [] := by
      cases news with
      | nil => rfl
      | cons v vs => obtain ⟨a, ha, _⟩ := hR 0 v rfl; cases ha
    subst this
    exact run_firstCells_none _ _ _ _ _
  | some a => exact run_firstCells_some _ s m a l c news hm (fun j v hv => by obtain ⟨a', ha, hc'⟩ := hR j v hv; cases ha; simpa using hc')
theorem run_firstCells_str {s : ByteArray} (w : World) : (Builtin.firstCells 1 s.size (.string s)).run P w = .ok (u8s s.data.toList).toArray w := by
  have : s.extract 0 s.size = s := by simp
  simp only [Builtin.firstCells, this]
  have e : (u8s s.data.toList).toArray = s.data.map (fun b => Value.int .u8 b.toNat) := by
    apply Array.ext'
    simp [u8s, u8v]
  rw [e]; rfl
end

/-! ### The rules -/
section
variable {P : Program} {w0 : World} {n : Nat} {ops : Array Oper} {Q : Exit → Act → World → Prop} {ρ : Env} {A R : List HProp} {rest : List Oper} {d d2 : Nat} {T T2 : TypeId} {pos pos2 : String} {af af2 : Array Edge}
variable {x y : Operand} {t t2 e : TypeId} {z : Value} {s by_ : Nat} {base : Option Addr} {l c m : Nat} {vs news : List Value}
/-- append(x, y...) onto an own row -/
theorem ap {b2 : Option Addr} {c2 : Nat} (hs0 : Nat.blt 0 s = true) (ht : P.underlying t = some (.slice e)) (hz : zeroT P e z s by_) (hzs : Nat.beq z.cells.size s = true) (hx : ev n ρ x = .slice base l c) (hy : ev n ρ y = .slice b2 m c2)
    (hl : vs.length = l * s) (hm : news.length = m * s) (h1 : ∀ v ∈ news, v.oneCell' = true) (hR : RdC w0 (row base c s e vs :: R) b2 news) (h63 : l + m ≤ maxLen) (hby : (l + m) * by_ ≤ 140737488355328)
    (h : ∀ base' c', l + m ≤ c' → WL P w0 n ops Q rest (set ρ d (.slice base' (l + m) c')) (row base' c' s e (vs ++ news) :: R)) :
    WL P w0 n ops Q (⟨some d, .call ⟨.builtin .append, #[x, y], #[t, t]⟩, T, pos, af, none⟩ :: rest) ρ (row base c s e vs :: R) :=
  WL.step rfl fun w hw => by
    obtain ⟨base', c', w', hr, hO⟩ := run_append_row (P := P) (ty := T) (y := .slice b2 m c2) ht (.inr ⟨_, ht⟩) hz (Nat.eq_of_beq_eq_true hzs) hl hm h1 (fun w => by simp [Builtin.lenOf]) (fun w hw => run_firstCells_rd hR hm hw) h63 hby hw
    exact ⟨.value (.slice base' (l + m) c'), w', _, _, by simp [execOp, resolve, invoke, builtin, hx, hy, hr], put_act .., hO, h _ _ (row_cap (by simpa using hs0) hl hm hO)⟩
/-- append(x, s...), s a string -/
theorem aps {str : ByteArray} (ht : P.underlying t = some (.slice e)) (h2 : srcT P t2) (hz : zeroT P e z 1 by_) (hzs : Nat.beq z.cells.size 1 = true) (hx : ev n ρ x = .slice base l c) (hy : ev n ρ y = .string str)
    (hl : vs.length = l) (h63 : l + str.size ≤ maxLen) (hby : (l + str.size) * by_ ≤ 140737488355328)
    (h : ∀ base' c', l + str.size ≤ c' → WL P w0 n ops Q rest (set ρ d (.slice base' (l + str.size) c')) (row base' c' 1 e (vs ++ u8s str.data.toList) :: R)) :
    WL P w0 n ops Q (⟨some d, .call ⟨.builtin .append, #[x, y], #[t, t2]⟩, T, pos, af, none⟩ :: rest) ρ (row base c 1 e vs :: R) :=
  WL.step rfl fun w hw => by
    obtain ⟨base', c', w', hr, hO⟩ := run_append_row (P := P) (ty := T) (y := .string str) ht h2 hz (Nat.eq_of_beq_eq_true hzs) (by omega) (by simp) (u8s_one str.data.toList) (fun w => by simp [Builtin.lenOf]) (fun w hw => run_firstCells_str w) h63 hby hw
    exact ⟨.value (.slice base' (l + str.size) c'), w', _, _, by simp [execOp, resolve, invoke, builtin, hx, hy, hr], put_act .., hO, h _ _ (row_cap (s := 1) (by omega) (by omega) (by simp) hO)⟩
/-- append where there is no room, or onto nothing -/
theorem apn {b2 : Option Addr} {c2 : Nat} (hs0 : Nat.blt 0 s = true) (ht : P.underlying t = some (.slice e)) (hz : zeroT P e z s by_) (hzs : Nat.beq z.cells.size s = true) (hx : ev n ρ x = .slice base l c) (hy : ev n ρ y = .slice b2 m c2)
    (hl : vs.length = l * s) (hm : news.length = m * s) (hRx : RdC w0 A base vs) (hR : RdC w0 A b2 news) (hroom : c < l + m) (h63 : l + m ≤ maxLen) (hby : (l + m) * by_ ≤ 140737488355328)
    (h : ∀ base' c', l + m ≤ c' → WL P w0 n ops Q rest (set ρ d (.slice base' (l + m) c')) (row base' c' s e (vs ++ news) :: A)) :
    WL P w0 n ops Q (⟨some d, .call ⟨.builtin .append, #[x, y], #[t, t]⟩, T, pos, af, none⟩ :: rest) ρ A :=
  WL.step rfl fun w hw => by
    obtain ⟨base', c', w', hr, hO⟩ := run_append_new (P := P) (ty := T) (y := .slice b2 m c2) ht (.inr ⟨_, ht⟩) hz (Nat.eq_of_beq_eq_true hzs) hl hm (fun w => by simp [Builtin.lenOf]) (fun w hw => run_firstCells_rd hR hm hw) hRx hroom h63 hby hw
    exact ⟨.value (.slice base' (l + m) c'), w', _, _, by simp [execOp, resolve, invoke, builtin, hx, hy, hr], put_act .., hO, h _ _ (row_cap (by simpa using hs0) hl hm hO)⟩
/-- make([]T, l, c) -/
theorem mk {k k2 : IntKind} {li ci : Int} (ht : P.underlying t = some (.slice e)) (hz : zeroT P e z s by_) (hx : ev n ρ x = .int k li) (hy : ev n ρ y = .int k2 ci) (h0 : 0 ≤ li) (h1 : li ≤ ci) (hby : (by_ : Int) * ci ≤ 281474976710656) (h63 : ci ≤ 9223372036854775807)
    (h : ∀ g, WL P w0 n ops Q rest (set ρ d (.slice (some ⟨g, 0, none⟩) li.toNat ci.toNat)) (cel g (madeCells z.cells (ci.toNat * s)).toList e :: A)) :
    WL P w0 n ops Q (⟨some d, .makeSlice t x y, T, pos, af, none⟩ :: rest) ρ A :=
  WL.step rfl fun w hw => by
    obtain ⟨i, hi, hz, rfl, rfl⟩ := hz
    have hr := run_make (P := P) w t e i z ht hi hz k k2 li ci h0 h1 hby h63
    exact ⟨.value _, w.alloc (.cells (madeCells z.cells (ci.toNat * i.size)) e), _, _, by simp [execOp, hx, hy, hr]; rfl, put_act .., Own.intro_cel (fz := (0, 0)) (NF.zero _) (by simpa using hw.alloc _), h _⟩
theorem made_rep {z : Value} (h : z.cells = #[z]) (k : Nat) : (madeCells z.cells k).toList = List.replicate k z := by
  apply List.ext_getElem?
  intro j
  simp only [madeCells, h, Array.toList_map, Array.toList_range, List.getElem?_map, List.getElem?_replicate]
  by_cases hj : j < k
  · simp [List.getElem?_range hj, hj, Nat.mod_one]
  · simp [hj]
def enumP : Nat → List Value → List (Nat × Value)
  | _, [] => []
  | k, v :: l => (k, v) :: enumP (k + 1) l
theorem fill_enum : ∀ (xs : List Value) (k : Nat) (cur : Array Value), (∀ v ∈ xs, v.cells = #[v]) → k + xs.length = cur.size →
    Instr.fill (fun i => some (i * 1, 1)) cur (enumP k xs) = some (cur.toList.take k ++ xs).toArray := by
  intro xs
  induction xs with
  | nil =>
    intro k cur _ hk
    simp only [enumP, Instr.fill, Option.some.injEq]
    apply Array.ext'
    simp at hk ⊢
    rw [List.take_of_length_le (by simp [hk])]
  | cons v xs ih =>
    intro k cur hc hk
    have hv := hc v (by simp)
    simp only [List.length_cons] at hk
    simp only [enumP, Instr.fill, hv, List.size_toArray, List.length_cons, List.length_nil]
    have h1 : ¬ (decide (0 + 1 ≠ 1) || decide (k * 1 + (0 + 1) > cur.size)) = true := by simp; omega
    rw [if_neg h1]
    have e : (#[v] : Array Value).zipIdx.foldl (fun cs x => cs.setIfInBounds (k * 1 + x.2) x.1) cur = cur.setIfInBounds k v := by simp
    rw [e, ih (k + 1) _ (fun u hu => hc u (by simp [hu])) (by simp; omega)]
    congr 2
    have hk' : k < cur.toList.length := by simp; omega
    rw [show (cur.setIfInBounds k v).toList = cur.toList.set k v by simp]
    rw [List.take_succ_eq_append_getElem (by simpa using hk')]
    simp [List.take_set]
    rw [List.set_eq_of_length_le (by simp; omega)]
theorem run_buildSlice1 (ht : P.underlying t = some (.slice e)) (hz : zeroT P e z 1 by_) (w : World) (xs : List Value) (hx : ∀ v ∈ xs, v.cells = #[v]) (hl : xs.length ≤ 1000) :
    (Instr.buildSlice t xs.length (enumP 0 xs).toArray).run P w = .ok (.slice (some ⟨w.heap.size, 0, none⟩) xs.length xs.length) (w.alloc (.cells xs.toArray e)) := by
  obtain ⟨i, hi, hz, hs, _⟩ := hz
  have hsize : ∀ w, (sizeOf e).run P w = .ok 1 w := fun w => by simp [sizeOf, typeInfo, hi, hs]
  have hle : ¬ (xs.length * 1 > 2 ^ 24) := by
    have : (2:Nat)^24 = 16777216 := by decide
    omega
  have hz1 : ∀ w, (zeroValue e).run P w = .ok z w := fun w => by simp [zeroValue, typeInfo, hi, hz]
  have hfill : ∀ (zero : Array Value), Instr.fill (fun i => some (i * 1, 1)) ((Array.range (xs.length * 1)).map (zero[· % zero.size]!)) (enumP 0 xs) = some xs.toArray := fun zero => by
    have := fill_enum xs 0 ((Array.range (xs.length * 1)).map (zero[· % zero.size]!)) hx (by simp)
    simpa using this
  unfold Instr.buildSlice
  simp only [Sem.run_bind, run_underlying ht, Result.andThen_ok, hsize, if_neg hle]
  by_cases h0 : xs.length * 1 = 0
  · obtain rfl : xs = [] := List.eq_nil_of_length_eq_zero (by omega)
    simp [enumP, Instr.fill, newRow, Array.range_zero']
  · have := hfill z.cells
    simp only [if_neg h0, Sem.run_bind, Sem.run_pure, Result.andThen_ok, hz1, this]
    simp [newRow]
theorem bsl_core {len : Nat} {parts : Array (Nat × Operand)} (xs : List Value) (ht : P.underlying t = some (.slice e)) (hz : zeroT P e z 1 by_) (hlen : len = xs.length) (hp : (parts.map fun (i, x) => (i, ev n ρ x)) = (enumP 0 xs).toArray)
    (hx : ∀ v ∈ xs, v.cells = #[v]) (hl : xs.length ≤ 1000)
    (h : ∀ g, WL P w0 n ops Q rest (set ρ d (.slice (some ⟨g, 0, none⟩) xs.length xs.length)) (cel g xs e :: A)) :
    WL P w0 n ops Q (⟨some d, .buildSlice t len parts, T, pos, af, none⟩ :: rest) ρ A :=
  WL.step rfl fun w hw => by
    subst hlen
    have hr := run_buildSlice1 (P := P) ht hz w xs hx hl
    exact ⟨.value _, w.alloc (.cells xs.toArray e), _, _, by simp [execOp, hp, hr]; rfl, put_act .., Own.intro_cel (fz := (0, 0)) (NF.zero _) (by simpa using hw.alloc _), h _⟩
/-- slice literals of one-cell elements -/
theorem bsl1 {v : Value} (ht : P.underlying t = some (.slice e)) (hz : zeroT P e z 1 by_) (hx : ev n ρ x = v) (h1 : v.cells = #[v])
    (h : ∀ g, WL P w0 n ops Q rest (set ρ d (.slice (some ⟨g, 0, none⟩) 1 1)) (cel g [v] e :: A)) :
    WL P w0 n ops Q (⟨some d, .buildSlice t 1 #[(0, x)], T, pos, af, none⟩ :: rest) ρ A :=
  bsl_core [v] ht hz rfl (by simp [enumP, hx]) (by simpa using h1) (by simp) h
theorem bsl2 {v u : Value} (ht : P.underlying t = some (.slice e)) (hz : zeroT P e z 1 by_) (hx : ev n ρ x = v) (hy : ev n ρ y = u) (h1 : v.cells = #[v]) (h2 : u.cells = #[u])
    (h : ∀ g, WL P w0 n ops Q rest (set ρ d (.slice (some ⟨g, 0, none⟩) 2 2)) (cel g [v, u] e :: A)) :
    WL P w0 n ops Q (⟨some d, .buildSlice t 2 #[(0, x), (1, y)], T, pos, af, none⟩ :: rest) ρ A :=
  bsl_core [v, u] ht hz rfl (by simp [enumP, hx, hy]) (by simp [h1, h2]) (by simp) h
/-- append(x, v): one element of one cell -/
theorem ap1 {v : Value} {d1 : Nat} (ht : P.underlying t = some (.slice e)) (hz : zeroT P e z 1 by_) (hzs : Nat.beq z.cells.size 1 = true) (hx : ∀ u, ev n (set ρ d1 u) x = .slice base l c) (hd : ∀ u, ev n (set ρ d1 u) (.tmp d1) = u) (hy : ev n ρ y = v) (h1 : v.cells = #[v]) (h1' : v.oneCell' = true)
    (hl : vs.length = l) (h63 : l + 1 ≤ maxLen) (hby : (l + 1) * by_ ≤ 140737488355328)
    (h : ∀ g base' c', l + 1 ≤ c' → WL P w0 n ops Q rest (set (set ρ d1 (.slice (some ⟨g, 0, none⟩) 1 1)) d (.slice base' (l + 1) c')) (row base' c' 1 e (vs ++ [v]) :: R)) :
    WL P w0 n ops Q (⟨some d1, .buildSlice t 1 #[(0, y)], T, pos, af, none⟩ :: ⟨some d, .call ⟨.builtin .append, #[x, .tmp d1], #[t, t]⟩, T2, pos2, af2, none⟩ :: rest) ρ (row base c 1 e vs :: R) :=
  bsl1 ht hz hy h1 fun g => by
    refine WL.perm (A' := row base c 1 e vs :: cel g [v] e :: R) ?_ (fun w hw => hw.pk1)
    refine ap rfl ht hz hzs (hx _) (hd _) (by omega) (m := 1) (news := [v]) (by simp) (by simpa using h1') (RdC.of_cel 0 (List.Mem.tail _ (List.Mem.head _)) (by simp)) h63 hby fun base' c' hc' => ?_
    exact WL.perm (h g base' c' hc') (fun w hw => hw.pk1.tail)
/-- copy(dst, src): dst an own block's cells from off on -/
theorem cp {g off dl dc sl sc : Nat} {b2 : Option Addr} {cur : List Value} (hs : sizeT P e 1 = true) (ht : P.underlying t = some (.slice e)) (hx : ev n ρ x = .slice (some ⟨g, off, none⟩) dl dc) (hy : ev n ρ y = .slice b2 sl sc)
    (hR : RdC w0 (cel g cur e :: R) b2 news) (hn : news.length = min sl dl) (h1 : ∀ v ∈ news, v.oneCell' = true) (ho : off + news.length ≤ cur.length)
    (h : WL P w0 n ops Q rest (set ρ d (.int .i64 news.length)) (cel g (splice cur off news) e :: R)) :
    WL P w0 n ops Q (⟨some d, .call ⟨.builtin .copy, #[x, y], #[t, t2]⟩, T, pos, af, none⟩ :: rest) ρ (cel g cur e :: R) :=
  WL.step rfl fun w hw => by
    have hfc := run_firstCells_rd (P := P) (c := sc) (s := 1) (m := news.length) hR (by simp) hw (l := sl)
    obtain ⟨fz, hf, hO⟩ := hw.cel
    obtain ⟨w', hr, hT⟩ := run_storeCells_cel (P := P) (o := off) news 0 cur w hO.heap.1 hf (by simpa using ho) h1
    refine ⟨.value (.int .i64 news.length), w', _, _, ?_, put_act .., Own.intro_cel (fz := fz) (by rw [splice_length ho]; exact hf) (hO.turned (by simpa using hT)), h⟩
    have hmin : Nat.min sl dl = news.length := hn.symm
    simp [execOp, resolve, invoke, builtin, hx, hy, Builtin.copy_, run_underlying ht, run_sizeOf_of hs, Builtin.lenOf, hmin, hfc, hr, goInt]
theorem forIn_u8s {w : World} {f : Value → ByteArray → Sem (ForInStep ByteArray)} (hf : ∀ b r, (f (u8v b) r).run P w = .ok (.yield (r.push b)) w) : ∀ (bs : List UInt8) (acc : ByteArray), (forIn (u8s bs) acc f).run P w = .ok (acc ++ ⟨bs.toArray⟩) w
  | [], acc => by simp [u8s]; apply ByteArray.ext; simp
  | b :: bs, acc => by
    have := forIn_u8s hf bs (acc.push b)
    simp only [u8s, List.map_cons, List.forIn_cons, Sem.run_bind, hf, Result.andThen_ok] at this ⊢
    rw [this]
    congr 1
    apply ByteArray.ext
    simp
/-- string(bytes) -/
theorem vstr {bs : List UInt8} {src dst : TypeId} (hs : P.underlying src = some (.slice e)) (he : P.underlying e = some (.int .u8)) (hd : P.underlying dst = some .string) (hx : ev n ρ x = .slice base l c) (hR : RdC w0 A base (u8s bs)) (hl : l = bs.length) {dd : Option Tmp} {g : Option (Nat × Bool)} :
    Val P w0 n ρ A ⟨dd, .convert src dst x, T, pos, af, g⟩ (.string ⟨bs.toArray⟩) := fun w hw => by
  subst hl
  have hR := hR w hw
  have key : (convert src dst (.slice base bs.length c)).run P w = .ok (.string ⟨bs.toArray⟩) w := by
    cases base with
    | none =>
      have : bs = [] := by
        cases bs with
        | nil => rfl
        | cons v vs => obtain ⟨a, ha, _⟩ := hR 0 _ rfl; cases ha
      subst this
      exact run_convert_bytes_nil w src e hs he _ _ dst hd
    | some a =>
      have hl := run_loadCells_list (P := P) w a (u8s bs) (fun j v hv => by obtain ⟨a', ha, hc⟩ := hR j v hv; cases ha; exact hc)
      rw [u8s_length] at hl
      simp only [convert, Sem.run_bind, run_underlying hs, run_underlying hd, run_underlying he, Result.andThen_ok, Conv.bytesToString, hl]
      simp
      rw [forIn_u8s (fun b r => by simp [u8v])]
      simp
  simp [execOp, hx, key]
end
end Go.Sl
