/-
  Slices of structs. Plain theorems over any program.
-/
import Derived.Test.YthljpljbpbkkcaaDoorSlRows
set_option linter.unusedVariables false
set_option linter.unusedSimpArgs false
namespace Go.Sl
open Go.RowKit

section
variable {P : Program} {w0 : World} {n : Nat} {ops : Array Oper} {Q : Exit → Act → World → Prop} {ρ : Env} {A R : List HProp} {rest : List Oper} {T T2 : TypeId} {pos pos2 : String} {af af2 : Array Edge} {x y : Operand} {t e : TypeId} {base : Option Addr} {s by_ j l c d1 : Nat} {vs cs : List Value} {z v : Value} {dd : Option Tmp} {g : Option (Nat × Bool)} {d : Nat}
theorem add_add' (a : Addr) (i k : Nat) : (a.add i).add k = a.add (i + k) := by rw [Addr.add_add]
/-- a field of an element of an array -/
theorem vfldr {f off : Nat} (hb : base.isSome = true) (hf : fieldT P t f off = true) (hx : ev n ρ x = .pointer (base.map (·.add j))) : Val P w0 n ρ A ⟨dd, .fieldAddr t x f, T, pos, af, g⟩ (.pointer (base.map (·.add (j + off)))) := by
  obtain ⟨a, rfl⟩ := Option.isSome_iff_exists.1 hb
  have := vfld (P := P) (w0 := w0) (A := A) (d := dd) (T := T) (pos := pos) (af := af) (g := g) hf hx
  rw [add_add'] at this
  exact this
theorem vnilr (hb : base.isSome = true) (hx : ev n ρ x = .pointer (base.map (·.add j))) : Val P w0 n ρ A ⟨dd, .nilCheck x, T, pos, af, g⟩ (.pointer (base.map (·.add j))) := by
  obtain ⟨a, rfl⟩ := Option.isSome_iff_exists.1 hb
  exact vnil hx
/-- a load of a whole struct -/
theorem vlda (ht : aggT P t = true) (hs : sizeT P t s = true) (hx : ev n ρ x = .pointer (base.map (·.add j))) (hR : RdC w0 A base vs) (hj : (vs.drop j).take s = cs) (hl : cs.length = s) (h0 : 0 < s) : Val P w0 n ρ A ⟨dd, .load t x, T, pos, af, g⟩ (.agg cs.toArray) := fun w hw => by
  have hR := hR w hw
  have hget : ∀ k v, cs[k]? = some v → vs[j + k]? = some v := fun k v hk => by
    rw [← hj, List.getElem?_take, List.getElem?_drop] at hk
    split at hk
    · exact hk
    · cases hk
  obtain ⟨a, rfl⟩ : ∃ a, base = some a := by
    obtain ⟨v, hv⟩ : ∃ v, cs[0]? = some v := ⟨_, List.getElem?_eq_getElem (by omega)⟩
    obtain ⟨a, ha, _⟩ := hR _ v (hget 0 v hv)
    exact ⟨_, ha⟩
  have hl2 := run_loadCells_list (P := P) w (a.add j) cs (fun k v hv => by
    obtain ⟨a', ha, hc⟩ := hR _ v (hget k v hv)
    cases ha
    rw [add_add']; exact hc)
  rw [hl] at hl2
  simp [execOp, hx, Instr.loadAt, Instr.sureAddr, loadVar, run_isAgg_agg ht, run_sizeOf_of hs, hl2]
theorem fold_sets : ∀ (cs : List Value) (k o : Nat) (cur : Array Value), o + k + cs.length ≤ cur.size →
    (cs.zipIdx k).foldl (fun (a : Array Value) (x : Value × Nat) => a.setIfInBounds (o + x.2) x.1) cur = (cur.toList.take (o + k) ++ cs ++ cur.toList.drop (o + k + cs.length)).toArray
  | [], k, o, cur, h => by simp
  | v :: cs, k, o, cur, h => by
    simp only [List.zipIdx_cons, List.foldl_cons]
    simp only [List.length_cons] at h
    rw [show (fun (a : Array Value) (x : Value × Nat) => a.setIfInBounds (o + x.2) x.1) = (fun (a : Array Value) (x : Value × Nat) => a.setIfInBounds (o + x.2) x.1) from rfl]
    have ih := fold_sets cs (k + 1) o (cur.setIfInBounds (o + k) v) (by simp; omega)
    rw [ih]
    congr 1
    have hlt : o + k < cur.toList.length := by simp; omega
    rw [show (cur.setIfInBounds (o + k) v).toList = cur.toList.set (o + k) v by simp]
    rw [show o + (k + 1) = (o + k) + 1 by omega, List.take_succ_eq_append_getElem (by simpa using hlt), List.take_set, List.set_eq_of_length_le (by rw [List.length_take]; omega)]
    rw [List.drop_set, if_pos (by omega), List.getElem_set_self]
    simp only [List.append_assoc, List.singleton_append, List.length_cons, List.cons_append, List.nil_append]
    rw [show o + k + 1 + cs.length = o + k + (cs.length + 1) by omega]
theorem run_buildSliceA (ht : P.underlying t = some (.slice e)) (hz : zeroT P e z s by_) (w : World) (hc : v.cells.toList = cs) (hs : cs.length = s) (h0 : 0 < s) (h1 : s ≤ 1000) :
    (Instr.buildSlice t 1 #[(0, v)]).run P w = .ok (.slice (some ⟨w.heap.size, 0, none⟩) 1 1) (w.alloc (.cells cs.toArray e)) := by
  obtain ⟨i, hi, hz, hsz, _⟩ := hz
  have hsize : ∀ w, (sizeOf e).run P w = .ok s w := fun w => by simp [sizeOf, typeInfo, hi, hsz]
  have hle : ¬ (1 * s > 2 ^ 24) := by
    have : (2:Nat)^24 = 16777216 := by decide
    omega
  have hz1 : ∀ w, (zeroValue e).run P w = .ok z w := fun w => by simp [zeroValue, typeInfo, hi, hz]
  have hvs : v.cells.size = s := by rw [← hs, ← hc]; simp
  have hfill : ∀ (zero : Array Value), Instr.fill (fun i => some (i * s, s)) ((Array.range (1 * s)).map (zero[· % zero.size]!)) [(0, v)] = some cs.toArray := fun zero => by
    have hcond : ¬ (decide (v.cells.size ≠ s) || decide (0 * s + v.cells.size > ((Array.range (1 * s)).map (zero[· % zero.size]!)).size)) = true := by simp [hvs]
    simp only [Instr.fill]
    rw [if_neg hcond]
    congr 1
    have hv : v.cells = cs.toArray := by rw [← hc]
    have key := fold_sets cs 0 (0 * s) ((Array.range (1 * s)).map (zero[· % zero.size]!)) (by simp [hs])
    rw [hv]
    have hzip : (cs.toArray.zipIdx).foldl (fun (a : Array Value) (x : Value × Nat) => a.setIfInBounds (0 * s + x.2) x.1) ((Array.range (1 * s)).map (zero[· % zero.size]!)) = (cs.zipIdx 0).foldl (fun (a : Array Value) (x : Value × Nat) => a.setIfInBounds (0 * s + x.2) x.1) ((Array.range (1 * s)).map (zero[· % zero.size]!)) := by simp
    refine hzip.trans (key.trans ?_)
    congr 1
    rw [List.drop_eq_nil_of_le (by simp [hs])]
    simp
  unfold Instr.buildSlice
  simp only [Sem.run_bind, run_underlying ht, Result.andThen_ok, hsize, if_neg hle]
  have h0' : ¬ 1 * s = 0 := by omega
  simp only [if_neg h0', Sem.run_bind, Sem.run_pure, Result.andThen_ok, hz1, hfill z.cells]
  simp [newRow]
/-- a slice literal of one struct -/
theorem bslA (ht : P.underlying t = some (.slice e)) (hz : zeroT P e z s by_) (hx : ev n ρ x = v) (hc : v.cells.toList = cs) (hs : cs.length = s) (h0 : 0 < s) (h1 : s ≤ 1000)
    (h : ∀ b, WL P w0 n ops Q rest (set ρ d (.slice (some ⟨b, 0, none⟩) 1 1)) (cel b cs e :: A)) :
    WL P w0 n ops Q (⟨some d, .buildSlice t 1 #[(0, x)], T, pos, af, none⟩ :: rest) ρ A :=
  WL.step rfl fun w hw => by
    have hr := run_buildSliceA (P := P) ht hz w hc hs h0 h1
    exact ⟨.value _, w.alloc (.cells cs.toArray e), _, _, by simp [execOp, hx, hr]; rfl, put_act .., Own.intro_cel (fz := (0, 0)) (NF.zero _) (by simpa using hw.alloc _), h _⟩
/-- append(xs, v) for a struct v -/
theorem apA (ht : P.underlying t = some (.slice e)) (hz : zeroT P e z s by_) (hzs : Nat.beq z.cells.size s = true) (hx : ∀ u, ev n (set ρ d1 u) x = .slice base l c) (hd : ∀ u, ev n (set ρ d1 u) (.tmp d1) = u) (hy : ev n ρ y = v) (hc : v.cells.toList = cs) (hs : cs.length = s) (h0 : 0 < s) (h1 : s ≤ 1000) (ho : ∀ v ∈ cs, v.oneCell' = true)
    (hl : vs.length = l * s) (h63 : l + 1 ≤ maxLen) (hby : (l + 1) * by_ ≤ 140737488355328)
    (h : ∀ g base' c', l + 1 ≤ c' → WL P w0 n ops Q rest (set (set ρ d1 (.slice (some ⟨g, 0, none⟩) 1 1)) d (.slice base' (l + 1) c')) (row base' c' s e (vs ++ cs) :: R)) :
    WL P w0 n ops Q (⟨some d1, .buildSlice t 1 #[(0, y)], T, pos, af, none⟩ :: ⟨some d, .call ⟨.builtin .append, #[x, .tmp d1], #[t, t]⟩, T2, pos2, af2, none⟩ :: rest) ρ (row base c s e vs :: R) :=
  bslA ht hz hy hc hs h0 h1 fun g => by
    refine WL.perm (A' := row base c s e vs :: cel g cs e :: R) ?_ (fun w hw => hw.pk1)
    refine ap (by simpa using h0) ht hz hzs (hx _) (hd _) hl (m := 1) (news := cs) (by rw [hs, Nat.one_mul]) ho (RdC.of_cel 0 (List.Mem.tail _ (List.Mem.head _)) (by simp)) h63 hby fun base' c' hc' => ?_
    exact WL.perm (h g base' c' hc') (fun w hw => hw.pk1.tail)
/-- a store of a whole struct -/
theorem stA {b : Nat} {old : List Value} (hs : sizeT P t s = true) (hx : ev n ρ x = .pointer (some ⟨b, 0, none⟩)) (hv : ev n ρ y = .agg cs.toArray) (hl : cs.length = s) (ho : old.length = s) (h1 : ∀ v ∈ cs, v.oneCell' = true)
    (h : WL P w0 n ops Q rest ρ (cel b cs e :: R)) : WL P w0 n ops Q (⟨none, .store t x y, T, pos, af, none⟩ :: rest) ρ (cel b old e :: R) :=
  WL.step rfl fun w hw => by
    obtain ⟨fz, hf, hO⟩ := hw.cel
    obtain ⟨w', hr, hT⟩ := run_storeCells_cel (P := P) (o := 0) cs 0 old w hO.heap.1 hf (by simp; omega) h1
    have hsp : splice old 0 cs = cs := by
      unfold splice
      simp only [List.take_zero, List.nil_append, Nat.zero_add]
      rw [List.drop_eq_nil_of_le (by omega), List.append_nil]
    have hr' : (storeCells ⟨b, 0, none⟩ cs).run P w = .ok () w' := by simpa using hr
    refine ⟨.skip, w', _, _, ?_, rfl, Own.intro_cel (fz := fz) (by rw [hl, ← ho]; exact hf) (hO.turned (by simpa [hsp] using hT)), h⟩
    simp [execOp, hx, hv, Instr.storeAt, Instr.sureAddr, storeVar, Value.cells, run_sizeOf_of hs, hl, hr', Result.andThen]
end
theorem flat_at {α : Type} {f : α → List Value} {s : Nat} : ∀ {l : List α} {i k : Nat}, (∀ x ∈ l, (f x).length = s) → (h : i < l.length) → k < s → (l.flatMap f)[i * s + k]? = (f l[i])[k]?
  | [], _, _, _, h, _ => by simp at h
  | y :: l, 0, k, hs, h, hk => by
    have := hs y (by simp)
    rw [List.flatMap_cons, Nat.zero_mul, Nat.zero_add, List.getElem?_append_left (by omega)]; rfl
  | y :: l, i + 1, k, hs, h, hk => by
    have hy := hs y (by simp)
    rw [List.flatMap_cons, List.getElem?_append_right (by rw [hy, Nat.succ_mul]; omega), hy]
    have e : (i + 1) * s + k - s = i * s + k := by rw [Nat.succ_mul]; omega
    rw [e, flat_at (fun x hx => hs x (by simp [hx])) (by simpa using h) hk]
    rfl
theorem flat_take {α : Type} {f : α → List Value} {s : Nat} : ∀ {l : List α} {i : Nat}, (∀ x ∈ l, (f x).length = s) → (h : i < l.length) → ((l.flatMap f).drop (i * s)).take s = f l[i]
  | [], _, _, h => by simp at h
  | y :: l, 0, hs, h => by
    have := hs y (by simp)
    rw [List.flatMap_cons, Nat.zero_mul, List.drop_zero]
    exact List.take_left' this
  | y :: l, i + 1, hs, h => by
    have hy := hs y (by simp)
    rw [List.flatMap_cons, Nat.succ_mul, Nat.add_comm, ← List.drop_drop, List.drop_left' hy, flat_take (fun x hx => hs x (by simp [hx])) (by simpa using h)]
    rfl
theorem flat_len {α : Type} {f : α → List Value} {s : Nat} {l : List α} (hs : ∀ x ∈ l, (f x).length = s) : (l.flatMap f).length = l.length * s := by
  induction l with
  | nil => simp
  | cons y l ih => rw [List.flatMap_cons, List.length_append, ih fun x hx => hs x (by simp [hx]), hs y (by simp), List.length_cons, Nat.succ_mul]; omega
end Go.Sl
