/-
  Maps of the call's own: made, looked up, updated, ranged over. Plain theorems over any program.
-/
import Derived.Test.YthljpljbpbkkcaaDoorSlOwn
import Derived.MapKept
import Derived.Maps.RangeRun
set_option linter.unusedVariables false
set_option linter.unusedSimpArgs false
namespace Go.Sl
open Go.RowKit
open Go.ChangeMaps (setBlock)
open Go.MapKept

/-- A map: its entries in the order in which they were laid. -/
def mp (d : TypeDesc) (m : Nat) (ps : List (Value × Value)) : HProp := fun h => ∃ es clk, (es.toList.map (fun e => (e.key, e.val)) = ps ∧ Stamped es clk ∧ ∀ x ∈ es.toList, IsKey d x.key) ∧ pt m (.map es clk) h
section
variable {w0 w : World} {A R : List HProp} {d : TypeDesc} {m : Nat} {ps : List (Value × Value)}
theorem Own.mp (H : Own w0 (Sl.mp d m ps :: R) w) : ∃ es clk, (es.toList.map (fun e => (e.key, e.val)) = ps ∧ Stamped es clk ∧ ∀ x ∈ es.toList, IsKey d x.key) ∧ Own w0 (pt m (.map es clk) :: R) w := by
  obtain ⟨hb, h, ⟨h1, h2, ⟨es, clk, c, a⟩, a2, dd, x⟩, hw⟩ := H
  exact ⟨es, clk, c, hb, h, ⟨h1, h2, a, a2, dd, x⟩, hw⟩
theorem Own.intro_mp {es : Array MapEntry} {clk : Nat} (hc : es.toList.map (fun e => (e.key, e.val)) = ps ∧ Stamped es clk ∧ ∀ x ∈ es.toList, IsKey d x.key) (H : Own w0 (pt m (.map es clk) :: R) w) : Own w0 (Sl.mp d m ps :: R) w :=
  H.head fun _ h => ⟨es, clk, hc, h⟩
/-- in every world that bears A the block is a map with these entries -/
def MpC (w0 : World) (A : List HProp) (d : TypeDesc) (m : Nat) (ps : List (Value × Value)) : Prop := ∀ w, Own w0 A w → ∃ es clk, (es.toList.map (fun e => (e.key, e.val)) = ps ∧ Stamped es clk ∧ ∀ x ∈ es.toList, IsKey d x.key) ∧ w.heap[m]? = some (.map es clk)
class MpAt (w0 : World) (A : List HProp) (m : Nat) (d : outParam TypeDesc) (ps : outParam (List (Value × Value))) : Prop where
  mp : MpC w0 A d m ps
instance (priority := low) MpAt.tail {X : HProp} [h : MpAt w0 A m d ps] : MpAt w0 (X :: A) m d ps := ⟨fun w hw => h.mp w hw.tail⟩
instance MpAt.head : MpAt w0 (Sl.mp d m ps :: A) m d ps := ⟨fun w hw => by
  obtain ⟨es, clk, hc, hO⟩ := hw.mp
  exact ⟨es, clk, hc, hO.heap.1⟩⟩
instance (priority := low) MpAt.app {G : List HProp} [h : MpAt w0 A m d ps] : MpAt w0 (G ++ A) m d ps := ⟨by
  induction G with
  | nil => exact h.mp
  | cons X G ih => exact fun w hw => ih w hw.tail⟩
theorem Turned.setBlock {o o' : Obj} (hb : w.heap[m]? = some o) : Turned w { w with heap := w.heap.setIfInBounds m o' } m o' := by
  have hlt : m < w.heap.size := (Array.getElem?_eq_some_iff.1 hb).1
  exact ⟨rfl, rfl, rfl, by simp, by simp [hlt], fun k hk => by simp [Ne.symm hk]⟩
theorem keys_of {es : Array MapEntry} (h : es.toList.map (fun e => (e.key, e.val)) = ps) : es.toList.map (·.key) = ps.map (·.1) := by rw [← h, List.map_map]; rfl
end
section
variable {P : Program} {w0 : World} {n : Nat} {ops : Array Oper} {Q : Exit → Act → World → Prop} {ρ : Env} {A R : List HProp} {rest : List Oper} {T : TypeId} {pos : String} {af : Array Edge} {x y z : Operand} {t kt et : TypeId} {d : TypeDesc} {m b : Nat} {ps : List (Value × Value)} {k v : Value} {dd : Option Tmp} {g : Option (Nat × Bool)}
/-- a new map -/
theorem mkm {dst : Nat} (d : TypeDesc) (h : ∀ m, WL P w0 n ops Q rest (set ρ dst (.map (some m))) (mp d m [] :: A)) : WL P w0 n ops Q (⟨some dst, .makeMap t none, T, pos, af, none⟩ :: rest) ρ A :=
  WL.step rfl fun w hw => ⟨.value (.map (some w.heap.size)), w.alloc (.map #[] 0), _, _, by
    simp [execOp, Instr.makeMap, Result.andThen], put_act .., Own.intro_mp (es := #[]) (clk := 0) ⟨rfl, stamped_empty 0, by simp⟩ (hw.alloc _), h _⟩
/-- a key that is there -/
theorem vlk {j : Nat} (ht : P.underlying t = some (.map kt et)) (hd : P.underlying kt = some d) (hx : ev n ρ x = .map (some m)) (hy : ev n ρ y = k) (hk : IsKey d k) [hm : MpAt w0 A m d ps] (hj : ps[j]? = some (k, v)) : Val P w0 n ρ A ⟨dd, .lookup t x y false, T, pos, af, g⟩ v := fun w hw => by
  obtain ⟨es, clk, ⟨h1, h2, h3⟩, hb⟩ := hm.mp w hw
  rcases findNow_spec hk es.toList 0 h3 with ⟨_, f2⟩ | ⟨i, e, f1, f2, f3⟩
  · rw [← h1, List.getElem?_map, Option.map_eq_some_iff] at hj
    obtain ⟨e, he, hke⟩ := hj
    exact absurd (congrArg Prod.fst hke) (f2 e (List.mem_of_getElem? he))
  · have hv : e.val = v := by
      rw [← h1, List.getElem?_map, Option.map_eq_some_iff] at hj
      obtain ⟨e', he', hke⟩ := hj
      have hkk : e'.key = e.key := by rw [f3]; exact congrArg Prod.fst hke
      have hij : j = i := by
        have hn := h2.2.2
        have g1 : (es.toList.map (·.key))[j]? = some e'.key := by simp [he']
        have g2 : (es.toList.map (·.key))[i]? = some e'.key := by simp [f2, hkk]
        exact (List.getElem?_inj (by simpa using (List.getElem?_eq_some_iff.1 he').1) hn).1 (g1.trans g2.symm)
      subst hij
      rw [he'] at f2
      cases f2
      exact congrArg Prod.snd hke
    simp [execOp, hx, hy, Instr.lookup, run_underlying ht, MapKept.run_getObj_map hb, run_checkKey hd hk, run_findKey hd f1, Result.andThen, hv]
/-- a key that is not there -/
theorem vlkz {zv : Value} {s by_ : Nat} (ht : P.underlying t = some (.map kt et)) (hd : P.underlying kt = some d) (hz : zeroT P et zv s by_) (hx : ev n ρ x = .map (some m)) (hy : ev n ρ y = k) (hk : IsKey d k) [hm : MpAt w0 A m d ps] (hj : ∀ p ∈ ps, p.1 ≠ k) : Val P w0 n ρ A ⟨dd, .lookup t x y false, T, pos, af, g⟩ zv := fun w hw => by
  obtain ⟨es, clk, ⟨h1, h2, h3⟩, hb⟩ := hm.mp w hw
  obtain ⟨i, z1, z2, _, _⟩ := hz
  rcases findNow_spec hk es.toList 0 h3 with ⟨f1, f2⟩ | ⟨i, e, f1, f2, f3⟩
  · simp [execOp, hx, hy, Instr.lookup, run_underlying ht, MapKept.run_getObj_map hb, run_checkKey hd hk, run_findKey hd f1, Result.andThen, zeroValue, typeInfo, z1, z2]
  · exact absurd f3 (hj (e.key, e.val) (by rw [← h1]; exact List.mem_map.2 ⟨e, List.mem_of_getElem? f2, rfl⟩))
/-- a key that is there gets another value -/
theorem mup {j : Nat} {u : Value} (ht : P.underlying t = some (.map kt et)) (hd : P.underlying kt = some d) (hx : ev n ρ x = .map (some m)) (hy : ev n ρ y = k) (hz : ev n ρ z = v) (hk : IsKey d k) (hj : ps[j]? = some (k, u))
    (h : WL P w0 n ops Q rest ρ (mp d m (ps.set j (k, v)) :: R)) : WL P w0 n ops Q (⟨none, .mapUpdate t x y z, T, pos, af, none⟩ :: rest) ρ (mp d m ps :: R) :=
  WL.step rfl fun w hw => by
    obtain ⟨es, clk, ⟨h1, h2, h3⟩, hO⟩ := hw.mp
    have hb := hO.heap.1
    rcases findNow_spec hk es.toList 0 h3 with ⟨_, f2⟩ | ⟨i, e, f1, f2, f3⟩
    · rw [← h1, List.getElem?_map, Option.map_eq_some_iff] at hj
      obtain ⟨e, he, hke⟩ := hj
      exact absurd (congrArg Prod.fst hke) (f2 e (List.mem_of_getElem? he))
    · have hij : j = i := by
        rw [← h1, List.getElem?_map, Option.map_eq_some_iff] at hj
        obtain ⟨e', he', hke⟩ := hj
        have hkk : e'.key = e.key := by rw [f3]; exact congrArg Prod.fst hke
        have hn := h2.2.2
        have g1 : (es.toList.map (·.key))[j]? = some e'.key := by simp [he']
        have g2 : (es.toList.map (·.key))[i]? = some e'.key := by simp [f2, hkk]
        exact (List.getElem?_inj (by simpa using (List.getElem?_eq_some_iff.1 he').1) hn).1 (g1.trans g2.symm)
      subst hij
      have hi : es[j]? = some e := by simpa using f2
      have hkey : ∀ e', es[j]? = some e' → ({ e' with key := k, val := v } : MapEntry).key = e'.key := fun e' he' => by rw [hi] at he'; cases he'; exact f3.symm
      refine ⟨.skip, _, _, _, by
        simp [execOp, hx, hy, hz, Instr.mapUpdate, run_underlying ht, MapKept.run_getObj_map hb, run_checkKey hd hk, run_findKey hd f1, hi, f3, run_keyThatStays hk, run_setObj_map _ hb, Result.andThen], rfl,
        Own.intro_mp (es := es.modify j fun e => { e with key := k, val := v }) (clk := clk) ⟨?_, stamped_modify h2 _ _ (fun _ _ => rfl) (fun e' _ he' => hkey e' he'), isKey_modify h3 _ _ hkey⟩ (hO.turned (Turned.setBlock hb)), h⟩
      rw [Array.toList_modify, ← h1]
      apply List.ext_getElem?
      intro q
      simp only [List.getElem?_map, List.getElem?_modify, List.getElem?_set]
      by_cases hq : j = q
      · subst hq
        have hjl : j < es.size := by simpa using (List.getElem?_eq_some_iff.1 f2).1
        simp [f2, hjl]
      · simp [hq]
/-- a new key -/
theorem mun (ht : P.underlying t = some (.map kt et)) (hd : P.underlying kt = some d) (hx : ev n ρ x = .map (some m)) (hy : ev n ρ y = k) (hz : ev n ρ z = v) (hk : IsKey d k) (hj : ∀ p ∈ ps, p.1 ≠ k)
    (h : WL P w0 n ops Q rest ρ (mp d m (ps ++ [(k, v)]) :: R)) : WL P w0 n ops Q (⟨none, .mapUpdate t x y z, T, pos, af, none⟩ :: rest) ρ (mp d m ps :: R) :=
  WL.step rfl fun w hw => by
    obtain ⟨es, clk, ⟨h1, h2, h3⟩, hO⟩ := hw.mp
    have hb := hO.heap.1
    rcases findNow_spec hk es.toList 0 h3 with ⟨f1, f2⟩ | ⟨i, e, f1, f2, f3⟩
    · refine ⟨.skip, _, _, _, by
        simp [execOp, hx, hy, hz, Instr.mapUpdate, run_underlying ht, MapKept.run_getObj_map hb, run_checkKey hd hk, run_findKey hd f1, run_setObj_map _ hb, Result.andThen], rfl,
        Own.intro_mp (es := es.push { key := k, val := v, born := clk }) (clk := clk + 1) ⟨by simp [h1], stamped_push h2 f2, fun x hx => ?_⟩ (hO.turned (Turned.setBlock hb)), h⟩
      simp only [Array.toList_push, List.mem_append, List.mem_singleton] at hx
      rcases hx with hx | rfl
      · exact h3 x hx
      · exact hk
    · exact absurd f3 (hj (e.key, e.val) (by rw [← h1]; exact List.mem_map.2 ⟨e, List.mem_of_getElem? f2, rfl⟩))
end
/-- the entries when a key gets a value: the old place, or the end -/
inductive PutE (ps : List (Value × Value)) (k v : Value) : List (Value × Value) → Prop
  | old (j : Nat) (u : Value) (h : ps[j]? = some (k, u)) : PutE ps k v (ps.set j (k, v))
  | new (h : ∀ p ∈ ps, p.1 ≠ k) : PutE ps k v (ps ++ [(k, v)])
section
variable {P : Program} {w0 : World} {n : Nat} {ops : Array Oper} {Q : Exit → Act → World → Prop} {ρ : Env} {R : List HProp} {rest : List Oper} {T : TypeId} {pos : String} {af : Array Edge} {x y z : Operand} {t kt et : TypeId} {d : TypeDesc} {m : Nat} {ps ps' : List (Value × Value)} {k v : Value}
/-- a key gets a value -/
theorem mpu (ht : P.underlying t = some (.map kt et)) (hd : P.underlying kt = some d) (hx : ev n ρ x = .map (some m)) (hy : ev n ρ y = k) (hz : ev n ρ z = v) (hk : IsKey d k) (hj : PutE ps k v ps')
    (h : WL P w0 n ops Q rest ρ (mp d m ps' :: R)) : WL P w0 n ops Q (⟨none, .mapUpdate t x y z, T, pos, af, none⟩ :: rest) ρ (mp d m ps :: R) := by
  cases hj with
  | old j u hj => exact mup ht hd hx hy hz hk hj h
  | new hj => exact mun ht hd hx hy hz hk hj h
end
theorem same_of {α β : Type} {f : α → β} {l : List α} (hn : (l.map f).Nodup) {a b : α} (ha : a ∈ l) (hb : b ∈ l) (h : f a = f b) : a = b := by
  obtain ⟨i, hi⟩ := List.mem_iff_getElem?.1 ha
  obtain ⟨j, hj⟩ := List.mem_iff_getElem?.1 hb
  have g1 : (l.map f)[i]? = some (f a) := by simp [hi]
  have g2 : (l.map f)[j]? = some (f a) := by simp [hj, h]
  have := (List.getElem?_inj (by simpa using (List.getElem?_eq_some_iff.1 hi).1) hn).1 (g1.trans g2.symm)
  subst this
  rw [hi] at hj
  exact Option.some.inj hj
/-- A map that is ranged over, its iterator, and the keys that came up (the last one first); no entry is laid in the meantime. -/
def mr (d : TypeDesc) (m : Nat) (ps : List (Value × Value)) (it : Nat) (vis : List Value) : HProp := fun h => ∃ es clk seen, (es.toList.map (fun e => (e.key, e.val)) = ps ∧ Stamped es clk ∧ ∀ x ∈ es.toList, IsKey d x.key) ∧
  ((∀ x ∈ es.toList, (seen.contains x.born = true ↔ x.key ∈ vis)) ∧ ∀ k vs, vis = k :: vs → ∃ (e : MapEntry) (seen' : Array Nat), e ∈ es.toList ∧ e.key = k ∧ seen = seen'.push e.born) ∧ star (pt m (.map es clk)) (pt it (.mapIter (some m) clk seen clk)) h
section
variable {w0 w : World} {A R : List HProp} {d : TypeDesc} {m it : Nat} {ps : List (Value × Value)} {vis : List Value}
theorem Own.mr (H : Own w0 (Sl.mr d m ps it vis :: R) w) : ∃ es clk seen, (es.toList.map (fun e => (e.key, e.val)) = ps ∧ Stamped es clk ∧ ∀ x ∈ es.toList, IsKey d x.key) ∧
    ((∀ x ∈ es.toList, (seen.contains x.born = true ↔ x.key ∈ vis)) ∧ ∀ k vs, vis = k :: vs → ∃ (e : MapEntry) (seen' : Array Nat), e ∈ es.toList ∧ e.key = k ∧ seen = seen'.push e.born) ∧ Own w0 (pt m (.map es clk) :: pt it (.mapIter (some m) clk seen clk) :: R) w := by
  obtain ⟨hb, h, ⟨h1, h2, ⟨es, clk, seen, c, c2, a⟩, a2, dd, x⟩, hw⟩ := H
  exact ⟨es, clk, seen, c, c2, Own.star ⟨hb, h, ⟨h1, h2, a, a2, dd, x⟩, hw⟩⟩
theorem Own.intro_mr {es : Array MapEntry} {clk : Nat} {seen : Array Nat} (hc : es.toList.map (fun e => (e.key, e.val)) = ps ∧ Stamped es clk ∧ ∀ x ∈ es.toList, IsKey d x.key)
    (hs : (∀ x ∈ es.toList, (seen.contains x.born = true ↔ x.key ∈ vis)) ∧ ∀ k vs, vis = k :: vs → ∃ (e : MapEntry) (seen' : Array Nat), e ∈ es.toList ∧ e.key = k ∧ seen = seen'.push e.born)
    (H : Own w0 (pt m (.map es clk) :: pt it (.mapIter (some m) clk seen clk) :: R) w) : Own w0 (Sl.mr d m ps it vis :: R) w := H.intro_star.head fun _ h => ⟨es, clk, seen, hc, hs, h⟩
theorem Own.mr_mp (H : Own w0 (Sl.mr d m ps it vis :: R) w) : Own w0 (Sl.mp d m ps :: R) w := by
  obtain ⟨es, clk, seen, hc, hs, hO⟩ := H.mr
  exact Own.intro_mp hc hO.pk1.tail
end
section
variable {P : Program} {w0 : World} {n : Nat} {ops : Array Oper} {Q : Exit → Act → World → Prop} {ρ : Env} {A R : List HProp} {rest : List Oper} {T : TypeId} {pos : String} {af : Array Edge} {x y z : Operand} {t kt et : TypeId} {d : TypeDesc} {m it dst : Nat} {ps : List (Value × Value)} {vis : List Value} {k v : Value} {dd : Option Tmp} {g : Option (Nat × Bool)}
/-- range over a map -/
theorem rgm (ht : P.underlying t = some (.map kt et)) (hx : ev n ρ x = .map (some m)) (h : ∀ it, WL P w0 n ops Q rest (set ρ dst (.pointer (some ⟨it, 0, none⟩))) (mr d m ps it [] :: R)) :
    WL P w0 n ops Q (⟨some dst, .range t x, T, pos, af, none⟩ :: rest) ρ (mp d m ps :: R) :=
  WL.step rfl fun w hw => by
    obtain ⟨es, clk, hc, hO⟩ := hw.mp
    have hb := hO.heap.1
    refine ⟨.value (.pointer (some ⟨w.heap.size, 0, none⟩)), w.alloc (.mapIter (some m) clk #[] clk), _, _, ?_, put_act .., Own.intro_mr (seen := #[]) hc ⟨by simp, fun k vs h => by cases h⟩ (hO.alloc _).pk1, h _⟩
    simp [execOp, hx, Instr.range, run_underlying ht, MapKept.run_getObj_map hb, Result.andThen]
/-- one step of a range -/
theorem nxm (hx : ev n ρ x = .pointer (some ⟨it, 0, none⟩)) (hmore : ∀ k v, (k, v) ∈ ps → k ∉ vis → WL P w0 n ops Q rest (set ρ dst (.tuple #[.bool true, k, v])) (mr d m ps it (k :: vis) :: R))
    (hend : (∀ p ∈ ps, p.1 ∈ vis) → WL P w0 n ops Q rest (set ρ dst (.tuple #[.bool false])) (mr d m ps it vis :: R)) :
    WL P w0 n ops Q (⟨some dst, .next x false, T, pos, af, none⟩ :: rest) ρ (mr d m ps it vis :: R) :=
  WL.step rfl fun w hw => by
    obtain ⟨es, clk, seen, hc, hs, hO⟩ := hw.mr
    have hb := hO.heap.1
    have hr := hO.pk1.heap.1
    rcases run_next_at (P := P) w T it m clk clk seen es clk hr hb hc.2.1.1 (Nat.le_refl _) with ⟨h0, hrun⟩ | ⟨e, he, w1, hw1, hrun⟩
    · refine ⟨.value (.tuple #[.bool false]), w, _, _, ?_, put_act .., hw, hend fun p hp => ?_⟩
      · simp only [execOp, hx]
        simp [hrun, Result.andThen]
      · rw [← hc.1] at hp
        obtain ⟨e, he, rfl⟩ := List.mem_map.1 hp
        have hno : leftOf es seen = #[] := Array.eq_empty_of_size_eq_zero h0
        have : e ∉ leftOf es seen := by rw [hno]; simp
        simp only [leftOf, Array.mem_filter, not_and, Bool.not_eq_true'] at this
        have h2 := this (by simpa using he)
        exact (hs.1 e he).1 (by simpa using h2)
    · have hel : e ∈ es.toList ∧ seen.contains e.born = false := by
        simp only [leftOf, Array.toList_filter, List.mem_filter, Bool.not_eq_true'] at he
        exact he
      have hnv : e.key ∉ vis := fun h => by
        have h3 := (hs.1 e hel.1).2 h
        rw [hel.2] at h3
        cases h3
      have hw1' : Own w0 (pt it (.mapIter (some m) clk seen clk) :: pt m (.map es clk) :: R) w1 := by
        rcases hw1 with rfl | rfl
        · exact hO.pk1
        · exact hO.pk1.drew
      have hr1 := hw1'.heap.1
      refine ⟨.value (.tuple #[.bool true, e.key, e.val]), setBlock w1 it (.mapIter (some m) clk (seen.push e.born) clk), _, _, ?_, put_act .., Own.intro_mr hc ⟨fun y hy => ?_, fun k vs hk => ?_⟩ (hw1'.turned (Turned.setBlock hr1)).pk1, hmore e.key e.val (by rw [← hc.1]; exact List.mem_map.2 ⟨e, hel.1, rfl⟩) hnv⟩
      · simp only [execOp, hx]
        simp [hrun, Result.andThen]
      · have hbk : y.born = e.born ↔ y.key = e.key := by
          constructor
          · intro h; rw [same_of hc.2.1.2.1 hy hel.1 h]
          · intro h; rw [same_of hc.2.1.2.2 hy hel.1 h]
        simp only [Array.contains_push, Bool.or_eq_true, beq_iff_eq, List.mem_cons, hs.1 y hy, hbk]
        exact or_comm
      · cases hk; exact ⟨e, seen, hel.1, rfl, rfl⟩
/-- the key and the value that came up last -/
theorem ven (hx : ev n ρ x = .pointer (some ⟨it, 0, none⟩)) (hk : (k, v) ∈ ps) : Val P w0 n ρ (mr d m ps it (k :: vis) :: R) ⟨dd, .entry x, T, pos, af, g⟩ (.tuple #[k, v]) := fun w hw => by
  obtain ⟨es, clk, seen, hc, hs, hO⟩ := hw.mr
  have hb := hO.heap.1
  have hr := hO.pk1.heap.1
  obtain ⟨e, seen', he, hek, hse⟩ := hs.2 k vis rfl
  subst hse
  have hrun := run_entry_at (P := P) w it m clk seen' es clk e hr hb he hc.2.1.2.1
  have hv : e.val = v := by
    rw [← hc.1] at hk
    obtain ⟨e', he', hke⟩ := List.mem_map.1 hk
    have h1 : e'.key = e.key := by rw [hek]; exact congrArg Prod.fst hke
    have h2 := same_of hc.2.1.2.2 he' he h1
    subst h2
    exact congrArg Prod.snd hke
  simp only [execOp, hx]
  simp [hrun, Result.andThen, hek, hv]
end
end Go.Sl
