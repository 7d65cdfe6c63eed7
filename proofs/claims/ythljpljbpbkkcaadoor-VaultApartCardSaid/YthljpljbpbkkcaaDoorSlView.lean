/-
  Views: what the readings of a row's arguments say of the memory, type by type. Plain theorems over any program.
-/
import Derived.Test.YthljpljbpbkkcaaDoorSlRow
import Derived.SizedLaws
set_option linter.unusedVariables false
set_option linter.unusedSimpArgs false
namespace Go.Sl
open Go.RowKit

/-- a reading within the form's own reach -/
def Wz {H : Type} (P : Program) (t : TypeId) (d : DataW H) : Prop := ∀ m ∈ d.weights P t, m ≤ 140737488351232
/-- Cells of type t that read are those of a view. -/
structure Vw (P : Program) (w : World) (t : TypeId) {α : Type} (cells : α → List Value) (good : α → Prop) : Prop where
  view : ∀ {H : Type} (enc : TypeId × Value → H) (fuel : Nat) (cs : List Value) x, DataW.trod enc P w 0 (fun _ => true) true fuel t cs = some x → Wz P t x.1 → ∃ a, cs = cells a ∧ good a
/-- a slice: where it lies, what it holds, its capacity -/
structure Sla (α : Type) where
  base : Option Addr
  xs : List α
  cap : Nat
section
variable {P : Program} {w : World} {t e : TypeId} {α β : Type} {cells : α → List Value} {good : α → Prop} {cells2 : β → List Value} {good2 : β → Prop}
theorem Vw.turn (h : Vw P w t cells good) (f : α → β) (hc : ∀ a, good a → cells a = cells2 (f a) ∧ good2 (f a)) : Vw P w t cells2 good2 := ⟨fun enc fuel cs x hx hz => by
  obtain ⟨a, rfl, hg⟩ := h.view enc fuel cs x hx hz
  exact ⟨f a, (hc a hg).1, (hc a hg).2⟩⟩
theorem trod_pos {H : Type} {enc : TypeId × Value → H} {fuel : Nat} {cs : List Value} {x} (h : DataW.trod enc P w 0 (fun _ => true) true fuel t cs = some x) : ∃ n, DataW.trodStep enc P w 0 (fun _ => true) true (DataW.trod enc P w 0 (fun _ => true) true n) t cs = some x := by
  cases fuel with
  | zero => simp [DataW.trod] at h
  | succ n => exact ⟨n, by rw [← DataW.trod_step]; exact h⟩
theorem Vw.int {k : IntKind} (ht : P.underlying t = some (.int k)) : Vw P w t (fun a : Int => [.int k a]) (fun a => (Lit.int k a).wf = true) := ⟨fun enc fuel cs x h _ => by
  obtain ⟨n, h⟩ := trod_pos h
  unfold DataW.trodStep at h
  simp only [ht] at h
  split at h <;> simp_all⟩
theorem Vw.bool (ht : P.underlying t = some .bool) : Vw P w t (fun b : Bool => [.bool b]) (fun _ => True) := ⟨fun enc fuel cs x h _ => by
  obtain ⟨n, h⟩ := trod_pos h
  unfold DataW.trodStep at h
  simp only [ht] at h
  split at h <;> simp_all⟩
theorem Vw.string (ht : P.underlying t = some .string) : Vw P w t (fun s : ByteArray => [.string s]) (fun s => s.size ≤ 140737488351232) := ⟨fun enc fuel cs x h hz => by
  obtain ⟨n, h⟩ := trod_pos h
  unfold DataW.trodStep at h
  simp only [ht] at h
  split at h <;> try (simp_all; done)
  rename_i s _ _
  split at h
  · simp only [Option.some.injEq] at h
    subst h
    exact ⟨s, rfl, hz s.data.toList.length (by simp [DataW.weights])⟩
  · cases h⟩
theorem Vw.i64 (ht : P.underlying t = some (.int .i64)) : Vw P w t (fun a : Int => [.int .i64 a]) (fun a => -9223372036854775808 ≤ a ∧ a ≤ 9223372036854775807) :=
  (Vw.int ht).turn id fun a h => ⟨rfl, i64_of_wf h⟩
theorem Vw.u8 (ht : P.underlying t = some (.int .u8)) : Vw P w t (fun b : UInt8 => [u8v b]) (fun _ => True) :=
  (Vw.int ht).turn (fun a => UInt8.ofNat a.toNat) fun a h => ⟨by
    have hb := u8_of_wf h
    have : ((UInt8.ofNat a.toNat).toNat : Int) = a := by rw [UInt8.toNat_ofNat']; omega
    show [Value.int .u8 a] = [u8v (UInt8.ofNat a.toNat)]
    unfold u8v
    rw [this], trivial⟩
theorem mapM_some {α β : Type} {f : α → Option β} : ∀ {l : List α} {ys : List β}, l.mapM f = some ys → ys.length = l.length ∧ ∀ (i : Nat) (y : β), ys[i]? = some y → ∃ x : α, l[i]? = some x ∧ f x = some y
  | [], ys, h => by simp at h; subst h; simp
  | x :: l, ys, h => by
    simp only [List.mapM_cons, Option.bind_eq_bind, Option.bind_eq_some_iff, Option.pure_def, Option.some.injEq] at h
    obtain ⟨y, hy, zs, hz, rfl⟩ := h
    obtain ⟨h1, h2⟩ := mapM_some hz
    refine ⟨by simp [h1], fun i y' hi => ?_⟩
    cases i with
    | zero => simp at hi; subst hi; exact ⟨x, rfl, hy⟩
    | succ i => simpa using h2 i y' (by simpa using hi)
theorem choose_list {α : Type} {p : Nat → α → Prop} : ∀ (n : Nat), (∀ i, i < n → ∃ a, p i a) → ∃ l : List α, l.length = n ∧ ∀ i a, l[i]? = some a → p i a
  | 0, _ => ⟨[], rfl, by simp⟩
  | n + 1, h => by
    obtain ⟨l, h1, h2⟩ := choose_list n fun i hi => h i (by omega)
    obtain ⟨a, ha⟩ := h n (by omega)
    refine ⟨l ++ [a], by simp [h1], fun i b hb => ?_⟩
    by_cases hi : i < l.length
    · rw [List.getElem?_append_left hi] at hb; exact h2 i b hb
    · rw [List.getElem?_append_right (by omega)] at hb
      have : i - l.length = 0 := by
        rcases Nat.eq_zero_or_pos (i - l.length) with h | h
        · exact h
        · rw [List.getElem?_eq_none (by simp; omega)] at hb; cases hb
      rw [this] at hb
      simp at hb
      subst hb
      have : i = n := by omega
      subst this; exact ha
/-- a cell of a list of lists of one length -/
theorem flat_get {l : List (List Value)} {s : Nat} (hs : ∀ x ∈ l, x.length = s) : ∀ {j : Nat} {v : Value}, l.flatten[j]? = some v → ∃ i k cs, l[i]? = some cs ∧ cs[k]? = some v ∧ j = i * s + k ∧ k < s := by
  induction l with
  | nil => intro j v h; simp at h
  | cons x l ih =>
    intro j v h
    have hx := hs x (by simp)
    rw [List.flatten_cons] at h
    by_cases hj : j < x.length
    · rw [List.getElem?_append_left hj] at h
      exact ⟨0, j, x, rfl, h, by omega, by omega⟩
    · rw [List.getElem?_append_right (by omega)] at h
      obtain ⟨i, k, cs, h1, h2, h3, h4⟩ := ih (fun y hy => hs y (by simp [hy])) h
      exact ⟨i + 1, k, cs, by simpa using h1, h2, by rw [Nat.add_mul]; omega, h4⟩
theorem weights_all {H : Type} {e : TypeId} {d : DataW H} : ∀ {l : List (DataW H)}, d ∈ l → ∀ m ∈ d.weights P e, m ∈ DataW.weightsAll P e l
  | [], h, _, _ => by cases h
  | c :: l, h, m, hm => by
    simp only [DataW.weightsAll, List.mem_append]
    rcases List.mem_cons.1 h with rfl | h
    · exact .inl hm
    · exact .inr (weights_all h m hm)
theorem Vw.slice {s : Nat} (ht : P.underlying t = some (.slice e)) (hs : P.cellsOf e = s) (h : Vw P w e cells good) :
    Vw P w t (fun a : Sla α => [.slice a.base a.xs.length a.cap]) (fun a => a.xs.length ≤ a.cap ∧ a.cap ≤ maxLen ∧ Rd w a.base (a.xs.flatMap cells) ∧ (∀ x ∈ a.xs, good x ∧ (cells x).length = s)) := ⟨fun enc fuel cs x hx hz => by
  obtain ⟨n, hx⟩ := trod_pos hx
  unfold DataW.trodStep at hx
  simp only [ht] at hx
  split at hx <;> try (simp_all; done)
  · exact ⟨⟨none, [], 0⟩, rfl, by simp, by simp [maxLen], fun j v hv => by simp at hv, by simp⟩
  · rename_i e' a len cap hu h00
    simp only [Option.some.injEq, TypeDesc.slice.injEq] at hu
    subst hu
    rw [hs] at hx
    split at hx
    · rename_i hc
      simp only [Option.bind_eq_some_iff] at hx
      obtain ⟨elems, hel, hx⟩ := hx
      have hze : ∀ (i : Nat) y, elems[i]? = some y → Wz P e y.1 := by
        rw [Option.map_eq_some_iff] at hx
        obtain ⟨rest, _, hx⟩ := hx
        intro i y hy m hm
        refine hz m ?_
        rw [← hx]
        simp only [DataW.weights, ht, List.mem_cons, List.mem_append]
        exact .inr (.inl (weights_all (List.mem_map.2 ⟨y, List.mem_of_getElem? hy, rfl⟩) m hm))
      obtain ⟨h1, h2⟩ := mapM_some hel
      simp only [List.length_range] at h1
      have h3 : ∀ i, i < len → ∃ y : α, good y ∧ (cells y).length = s ∧ ∀ k v, (cells y)[k]? = some v → w.cell? (a.add (i * s + k)) = some v := by
        intro i hi
        obtain ⟨y, hy⟩ : ∃ y, elems[i]? = some y := ⟨_, List.getElem?_eq_getElem (by omega)⟩
        obtain ⟨i', hi', hy'⟩ := h2 i y hy
        rw [List.getElem?_range (by omega)] at hi'
        simp at hi'; subst hi'
        simp only [Option.bind_eq_some_iff] at hy'
        obtain ⟨cs, hcs, hr⟩ := hy'
        obtain ⟨b, rfl, hg⟩ := h.view enc _ _ _ hr (hze i y hy)
        unfold World.cells? at hcs
        split at hcs
        · obtain ⟨g1, g2⟩ := mapM_some hcs
          simp only [List.length_range] at g1
          refine ⟨b, hg, g1, fun k v hv => ?_⟩
          obtain ⟨k', hk', hv'⟩ := g2 k v hv
          have hk : k < s := by rw [← g1]; exact (List.getElem?_eq_some_iff.1 hv).1
          rw [List.getElem?_range hk] at hk'
          simp at hk'; subst hk'
          rw [← hv', Addr.add_add]
        · cases hcs
      obtain ⟨l, hl, hp⟩ := choose_list len h3
      have hgl : ∀ x ∈ l, good x ∧ (cells x).length = s := by
        intro x hx
        obtain ⟨i, hi⟩ := List.mem_iff_getElem?.1 hx
        exact ⟨(hp i x hi).1, (hp i x hi).2.1⟩
      refine ⟨⟨some a, l, cap⟩, by simp [hl], by simp [hl, hc.2.1], hc.2.2, fun j v hv => ?_, hgl⟩
      rw [List.flatMap_def] at hv
      obtain ⟨i, k, cs, g1, g2, g3, g4⟩ := flat_get (s := s) (by intro x hx; simp at hx; obtain ⟨y, hy, rfl⟩ := hx; exact (hgl y hy).2) hv
      simp only [List.getElem?_map, Option.map_eq_some_iff] at g1
      obtain ⟨y, hy, rfl⟩ := g1
      exact ⟨a, rfl, by rw [g3]; exact (hp i y hy).2.2 k v g2⟩
    · cases hx⟩
/-- fields one after the other from place o on -/
structure Vf (P : Program) (w : World) (fs : List Field) (o : Nat) {α : Type} (cells : α → List Value) (good : α → Prop) : Prop where
  view : ∀ {H : Type} (enc : TypeId × Value → H) (fuel : Nat) (cs : List Value) xs, fs.mapM (fun f => DataW.trod enc P w 0 (fun _ => true) true fuel f.type ((cs.drop f.offset).take (P.cellsOf f.type))) = some xs → (∀ m ∈ DataW.weightsEach P (fs.map fun f => f.type) (xs.map (·.1)), m ≤ 140737488351232) → ∃ a, (cs.drop o).take (fs.map fun f => P.cellsOf f.type).sum = cells a ∧ good a
theorem Vf.nil {o : Nat} : Vf P w [] o (fun _ : Unit => []) (fun _ => True) := ⟨fun enc fuel cs xs h _ => ⟨(), by simp, trivial⟩⟩
theorem Vf.cons {f : Field} {fs : List Field} {o s : Nat} (h1 : Vw P w f.type cells good) (ho : f.offset = o) (hs : P.cellsOf f.type = s) (h2 : Vf P w fs (o + s) cells2 good2) :
    Vf P w (f :: fs) o (fun p : α × β => cells p.1 ++ cells2 p.2) (fun p => good p.1 ∧ good2 p.2) := ⟨fun enc fuel cs xs h hz => by
  simp only [List.mapM_cons, Option.bind_eq_bind, Option.bind_eq_some_iff, Option.pure_def, Option.some.injEq] at h
  obtain ⟨y, hy, zs, hzs, rfl⟩ := h
  obtain ⟨a, ha, hga⟩ := h1.view enc _ _ _ hy fun m hm => hz m (by simp only [List.map_cons, DataW.weightsEach, List.mem_append]; exact .inl hm)
  obtain ⟨b, hb, hgb⟩ := h2.view enc _ _ _ hzs fun m hm => hz m (by simp only [List.map_cons, DataW.weightsEach, List.mem_append]; exact .inr hm)
  refine ⟨(a, b), ?_, hga, hgb⟩
  rw [← ha, ← hb, ho, hs, List.map_cons, List.sum_cons, hs, List.take_add, List.drop_drop]⟩
theorem Vw.struct {fs : Array Field} {s : Nat} (ht : P.underlying t = some (.struct fs)) (hc : P.cellsOf t = s) (hs : (fs.toList.map fun f => P.cellsOf f.type).sum = s) (h : Vf P w fs.toList 0 cells good) : Vw P w t cells good := ⟨fun enc fuel cs x hx hz => by
  obtain ⟨n, hx⟩ := trod_pos hx
  unfold DataW.trodStep at hx
  simp only [ht] at hx
  split at hx
  · rename_i hl
    simp only [Option.map_eq_some_iff] at hx
    obtain ⟨xs, hxs, hx⟩ := hx
    obtain ⟨a, ha, hg⟩ := h.view enc _ _ _ hxs fun m hm => hz m (by rw [← hx]; simp only [DataW.weights, ht]; exact hm)
    refine ⟨a, ?_, hg⟩
    rw [← ha, hs, List.drop_zero, List.take_of_length_le (by omega)]
  · cases hx⟩
theorem Vw.array {N s : Nat} (ht : P.underlying t = some (.array N e)) (hs : P.cellsOf e = s) (hc : P.cellsOf t = N * s) (h : Vw P w e cells good) :
    Vw P w t (fun l : List α => l.flatMap cells) (fun l => l.length = N ∧ ∀ x ∈ l, good x ∧ (cells x).length = s) := ⟨fun enc fuel cs x hx hz => by
  obtain ⟨n, hx⟩ := trod_pos hx
  unfold DataW.trodStep at hx
  simp only [ht] at hx
  split at hx
  · rename_i hl
    simp only [Option.map_eq_some_iff] at hx
    obtain ⟨xs, hxs, hx⟩ := hx
    have hze : ∀ (i : Nat) y, xs[i]? = some y → Wz P e y.1 := fun i y hy m hm => hz m (by
      rw [← hx]
      simp only [DataW.weights, ht]
      exact weights_all (List.mem_map.2 ⟨y, List.mem_of_getElem? hy, rfl⟩) m hm)
    obtain ⟨h1, h2⟩ := mapM_some hxs
    simp only [List.length_range] at h1
    have h3 : ∀ i, i < N → ∃ y : α, good y ∧ (cells y).length = s ∧ (cs.drop (i * s)).take s = cells y := by
      intro i hi
      obtain ⟨y, hy⟩ : ∃ y, xs[i]? = some y := ⟨_, List.getElem?_eq_getElem (by omega)⟩
      obtain ⟨i', hi', hy'⟩ := h2 i y hy
      rw [List.getElem?_range (by omega)] at hi'
      simp at hi'; subst hi'
      obtain ⟨b, hb, hg⟩ := h.view enc _ _ _ hy' (hze i y hy)
      rw [hs] at hb
      refine ⟨b, hg, ?_, hb⟩
      rw [← hb, List.length_take, List.length_drop, hl, hc]
      have : i * s + s ≤ N * s := by rw [← Nat.succ_mul]; exact Nat.mul_le_mul_right s hi
      omega
    obtain ⟨l, hll, hp⟩ := choose_list N h3
    refine ⟨l, ?_, hll, fun x hx => ?_⟩
    · rw [hc] at hl
      have key : ∀ (l : List α) (cs : List Value), cs.length = l.length * s → (∀ i a, l[i]? = some a → (cs.drop (i * s)).take s = cells a) → cs = l.flatMap cells := by
        intro l
        induction l with
        | nil => intro cs h _; simpa using h
        | cons a l ih =>
          intro cs hcs hp
          rw [List.flatMap_cons, ← hp 0 a rfl, Nat.zero_mul, List.drop_zero]
          conv => lhs; rw [← List.take_append_drop s cs]
          congr 1
          refine ih _ (by rw [List.length_drop, hcs, List.length_cons, Nat.add_mul]; omega) fun i b hi => ?_
          rw [List.drop_drop, ← hp (i + 1) b (by simpa using hi), Nat.add_mul, Nat.one_mul, Nat.add_comm s]
      exact key l cs (by rw [hl, hll]) fun i a ha => (hp i a ha).2.2
    · obtain ⟨i, hi⟩ := List.mem_iff_getElem?.1 hx
      exact ⟨(hp i x hi).1, (hp i x hi).2.1⟩
  · cases hx⟩
theorem flat_u8 (l : List UInt8) : l.flatMap (fun b => [u8v b]) = u8s l := by
  induction l with
  | nil => rfl
  | cons a l ih => rw [List.flatMap_cons, ih]; rfl
theorem Vw.bslice (ht : P.underlying t = some (.slice e)) (he : P.underlying e = some (.int .u8)) (hs : P.cellsOf e = 1) :
    Vw P w t (fun a : Sla UInt8 => [.slice a.base a.xs.length a.cap]) (fun a => a.xs.length ≤ a.cap ∧ a.cap ≤ maxLen ∧ Rd w a.base (u8s a.xs)) :=
  (Vw.slice ht hs (Vw.u8 he)).turn id fun a h => ⟨rfl, h.1, h.2.1, by simpa only [flat_u8, id] using h.2.2.1⟩
theorem Vw.barray {N : Nat} (ht : P.underlying t = some (.array N e)) (he : P.underlying e = some (.int .u8)) (hs : P.cellsOf e = 1) (hc : P.cellsOf t = N * 1) :
    Vw P w t (fun l : List UInt8 => u8s l) (fun l => l.length = N) :=
  (Vw.array ht hs hc (Vw.u8 he)).turn id fun a h => ⟨flat_u8 a, h.1⟩
theorem flat_i64 (l : List Int) : l.flatMap (fun a => [Value.int .i64 a]) = i64s l := by
  induction l with
  | nil => rfl
  | cons a l ih => rw [List.flatMap_cons, ih]; rfl
theorem Vw.islice (ht : P.underlying t = some (.slice e)) (he : P.underlying e = some (.int .i64)) (hs : P.cellsOf e = 1) :
    Vw P w t (fun a : Sla Int => [.slice a.base a.xs.length a.cap]) (fun a => a.xs.length ≤ a.cap ∧ a.cap ≤ maxLen ∧ Rd w a.base (i64s a.xs) ∧ ∀ x ∈ a.xs, -9223372036854775808 ≤ x ∧ x ≤ 9223372036854775807) :=
  (Vw.slice ht hs (Vw.i64 he)).turn id fun a h => ⟨rfl, h.1, h.2.1, by simpa only [flat_i64, id] using h.2.2.1, fun x hx => (h.2.2.2 x hx).1⟩
def strs (l : List ByteArray) : List Value := l.map Value.string
theorem flat_str (l : List ByteArray) : l.flatMap (fun a => [Value.string a]) = strs l := by
  induction l with
  | nil => rfl
  | cons a l ih => rw [List.flatMap_cons, ih]; rfl
theorem strs_at {l : List ByteArray} {i : Nat} (h : i < l.length) : (strs l)[i]? = some (.string l[i]) := by simp [strs, h]
@[simp] theorem strs_length (l : List ByteArray) : (strs l).length = l.length := by simp [strs]
theorem Vw.sslice (ht : P.underlying t = some (.slice e)) (he : P.underlying e = some .string) (hs : P.cellsOf e = 1) :
    Vw P w t (fun a : Sla ByteArray => [.slice a.base a.xs.length a.cap]) (fun a => a.xs.length ≤ a.cap ∧ a.cap ≤ maxLen ∧ Rd w a.base (strs a.xs) ∧ ∀ x ∈ a.xs, x.size ≤ 140737488351232) :=
  (Vw.slice ht hs (Vw.string he)).turn id fun a h => ⟨rfl, h.1, h.2.1, by simpa only [flat_str, id] using h.2.2.1, fun x hx => (h.2.2.2 x hx).1⟩
/-- slices of bytes -/
def bss (l : List (Sla UInt8)) : List Value := l.map fun a => .slice a.base a.xs.length a.cap
theorem flat_one {α : Type} (f : α → Value) (l : List α) : l.flatMap (fun a => [f a]) = l.map f := by
  induction l with
  | nil => rfl
  | cons a l ih => rw [List.flatMap_cons, ih]; rfl
@[simp] theorem bss_length (l : List (Sla UInt8)) : (bss l).length = l.length := by simp [bss]
theorem bss_at {l : List (Sla UInt8)} {i : Nat} (h : i < l.length) : (bss l)[((i : Int)).toNat]? = some (.slice l[i].base l[i].xs.length l[i].cap) := by simp [bss, h]
theorem Vw.bsslice {good2 : Sla UInt8 → Prop} (ht : P.underlying t = some (.slice e)) (h : Vw P w e (fun a : Sla UInt8 => [.slice a.base a.xs.length a.cap]) good2) (hs : P.cellsOf e = 1) :
    Vw P w t (fun a : Sla (Sla UInt8) => [.slice a.base a.xs.length a.cap]) (fun a => a.xs.length ≤ a.cap ∧ a.cap ≤ maxLen ∧ Rd w a.base (bss a.xs) ∧ ∀ x ∈ a.xs, good2 x) :=
  (Vw.slice ht hs h).turn id fun a h => ⟨rfl, h.1, h.2.1, by simpa only [flat_one, id, bss] using h.2.2.1, fun x hx => (h.2.2.2 x hx).1⟩
def bls (l : List Bool) : List Value := l.map Value.bool
@[simp] theorem bls_length (l : List Bool) : (bls l).length = l.length := by simp [bls]
theorem bls_at {l : List Bool} {i : Nat} (h : i < l.length) : (bls l)[((i : Int)).toNat]? = some (.bool l[i]) := by simp [bls, h]
theorem Vw.blslice (ht : P.underlying t = some (.slice e)) (he : P.underlying e = some .bool) (hs : P.cellsOf e = 1) :
    Vw P w t (fun a : Sla Bool => [.slice a.base a.xs.length a.cap]) (fun a => a.xs.length ≤ a.cap ∧ a.cap ≤ maxLen ∧ Rd w a.base (bls a.xs)) :=
  (Vw.slice ht hs (Vw.bool he)).turn id fun a h => ⟨rfl, h.1, h.2.1, by simpa only [flat_one, id, bls] using h.2.2.1⟩
theorem i64s_atT {l : List Int} {i : Nat} (h : i < l.length) : (i64s l)[((i : Int)).toNat]? = some (.int .i64 l[i]) := by simp [i64s, h]
theorem strs_atT {l : List ByteArray} {i : Nat} (h : i < l.length) : (strs l)[((i : Int)).toNat]? = some (.string l[i]) := by simp [strs, h]
theorem u8s_atT {l : List UInt8} {i : Nat} (h : i < l.length) : (u8s l)[((i : Int)).toNat]? = some (u8v l[i]) := by simp [u8s, h]
theorem okWide_agg {r : Reach} {b0 : Nat} {v : Value} (ht : (∃ fs, P.underlying t = some (.struct fs)) ∨ ∃ N e, P.underlying t = some (.array N e)) (h : Value.okWide P w r b0 t v) : ∃ cs, v = .agg cs := by
  rcases ht with ⟨fs, ht⟩ | ⟨N, e, ht⟩ <;> simp only [Value.okWide, ht] at h <;> exact ⟨h.choose, h.choose_spec.1⟩
theorem agg_cells {cs : Array Value} {l : List Value} (h : (Value.agg cs).cells.toList = l) : cs = l.toArray := by
  have : cs.toList = l := h
  rw [← this]
theorem slice_cells {a : Option Addr} {l c : Nat} {b : Option Addr} {l2 c2 : Nat} (h : (Value.slice a l c).cells.toList = [.slice b l2 c2]) : Value.slice a l c = .slice b l2 c2 := by
  simp [Value.cells] at h
  simp [h]
end
end Go.Sl
