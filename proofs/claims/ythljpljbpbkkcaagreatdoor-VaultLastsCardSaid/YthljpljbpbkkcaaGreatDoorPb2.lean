/-
  Texts one behind the other: SlMap, SlStr, SlRows, SlAgg, SlFor, SlAuto, SlMapK, SlCallV, SlLay, LayX, SlEq, Base, VaultSpecA, VaultSpecB, VaultSpecC, JournalPure, JournalPureB, PackSpecA, DiskSpecA.
-/
import Derived.MapKept
import Derived.Maps.RangeRun
import Derived.RangeFuncRecord
import Derived.Laws.Cover3
import Derived.DeepKeys3
import Derived.Shelf.SlIter.Nil
import Derived.Shelf.SortM.Plain
import Derived.Shelf.SortM.SortNone
import Derived.Shelf.Strconv.Atoi
import Derived.Shelf.Strconv.Itoa3
import Derived.Shelf.Strings.SlTrimAscii
import Derived.Test.YthljpljbpbkkcaaGreatDoorProg
import Derived.Laws.StructEq
import Derived.KernelRfl
import Derived.Test.YthljpljbpbkkcaaGreatDoorPb1
section
set_option linter.unusedVariables false
set_option linter.unusedSimpArgs false
namespace Go.Sl
open Go.RowKit
open Go.ChangeMaps (setBlock)
open Go.MapKept

/-- A map: its entries in the order in which they were laid. -/
def mp (d : TypeDesc) (m : Nat) (ps : List (Value × Value)) : HProp := fun h => ∃ es clk, (es.toList.map (fun e => (e.key, e.val)) = ps ∧ Stamped es clk ∧ ∀ x ∈ es.toList, IsKey d x.key) ∧ pt m (.map es clk) h
section
variable {w0 w : World} {A R : List HProp} {d : TypeDesc} {m : Nat} {ps : List (Value × Value)}
theorem Own.mp (H : Own w0 (Sl.mp d m ps :: R) w) : ∃ es clk, (es.toList.map (fun e => (e.key, e.val)) = ps ∧ Stamped es clk ∧ ∀ x ∈ es.toList, IsKey d x.key) ∧ Own w0 (pt m (.map es clk) :: R) w := by
  obtain ⟨hb, h, ⟨h1, h2, ⟨es, clk, c, a⟩, a2, dd, x⟩, hw⟩ := H
  exact ⟨es, clk, c, hb, h, ⟨h1, h2, a, a2, dd, x⟩, hw⟩
theorem Own.intro_mp {es : Array MapEntry} {clk : Nat} (hc : es.toList.map (fun e => (e.key, e.val)) = ps ∧ Stamped es clk ∧ ∀ x ∈ es.toList, IsKey d x.key) (H : Own w0 (pt m (.map es clk) :: R) w) : Own w0 (Sl.mp d m ps :: R) w :=
  H.head fun _ h => ⟨es, clk, hc, h⟩
/-- in every world that bears A the block is a map with these entries -/
def MpC (w0 : World) (A : List HProp) (d : TypeDesc) (m : Nat) (ps : List (Value × Value)) : Prop := ∀ w, Own w0 A w → ∃ es clk, (es.toList.map (fun e => (e.key, e.val)) = ps ∧ Stamped es clk ∧ ∀ x ∈ es.toList, IsKey d x.key) ∧ w.heap[m]? = some (.map es clk)
class MpAt (w0 : World) (A : List HProp) (m : Nat) (d : outParam TypeDesc) (ps : outParam (List (Value × Value))) : Prop where
  mp : MpC w0 A d m ps
instance (priority := low) MpAt.tail {X : HProp} [h : MpAt w0 A m d ps] : MpAt w0 (X :: A) m d ps := ⟨fun w hw => h.mp w hw.tail⟩
instance MpAt.head : MpAt w0 (Sl.mp d m ps :: A) m d ps := ⟨fun w hw => by
  obtain ⟨es, clk, hc, hO⟩ := hw.mp
  exact ⟨es, clk, hc, hO.heap.1⟩⟩
instance (priority := low) MpAt.app {G : List HProp} [h : MpAt w0 A m d ps] : MpAt w0 (G ++ A) m d ps := ⟨by
  induction G with
  | nil => exact h.mp
  | cons X G ih => exact fun w hw => ih w hw.tail⟩
theorem Turned.setBlock {o o' : Obj} (hb : w.heap[m]? = some o) : Turned w { w with heap := w.heap.setIfInBounds m o' } m o' := by
  have hlt : m < w.heap.size := (Array.getElem?_eq_some_iff.1 hb).1
  exact ⟨rfl, rfl, rfl, by simp, by simp [hlt], fun k hk => by simp [Ne.symm hk]⟩
theorem keys_of {es : Array MapEntry} (h : es.toList.map (fun e => (e.key, e.val)) = ps) : es.toList.map (·.key) = ps.map (·.1) := by rw [← h, List.map_map]; rfl
end
section
variable {P : Program} {w0 : World} {n : Nat} {ops : Array Oper} {Q : Exit → Act → World → Prop} {ρ : Env} {A R : List HProp} {rest : List Oper} {T : TypeId} {pos : String} {af : Array Edge} {x y z : Operand} {t kt et : TypeId} {d : TypeDesc} {m b : Nat} {ps : List (Value × Value)} {k v : Value} {dd : Option Tmp} {g : Option (Nat × Bool)}
/-- a new map -/
theorem mkm {dst : Nat} (d : TypeDesc) (h : ∀ m, WL P w0 n ops Q rest (set ρ dst (.map (some m))) (mp d m [] :: A)) : WL P w0 n ops Q (⟨some dst, .makeMap t none, T, pos, af, none⟩ :: rest) ρ A :=
  WL.step rfl fun w hw => ⟨.value (.map (some w.heap.size)), w.alloc (.map #[] 0), _, _, by
    simp [execOp, Instr.makeMap, Result.andThen], put_act .., Own.intro_mp (es := #[]) (clk := 0) ⟨rfl, stamped_empty 0, by simp⟩ (hw.alloc _), h _⟩
/-- a key that is there -/
theorem vlk {j : Nat} (ht : P.underlying t = some (.map kt et)) (hd : P.underlying kt = some d) (hx : ev n ρ x = .map (some m)) (hy : ev n ρ y = k) (hk : IsKey d k) [hm : MpAt w0 A m d ps] (hj : ps[j]? = some (k, v)) : Val P w0 n ρ A ⟨dd, .lookup t x y false, T, pos, af, g⟩ v := fun w hw => by
  obtain ⟨es, clk, ⟨h1, h2, h3⟩, hb⟩ := hm.mp w hw
  rcases findNow_spec hk es.toList 0 h3 with ⟨_, f2⟩ | ⟨i, e, f1, f2, f3⟩
  · rw [← h1, List.getElem?_map, Option.map_eq_some_iff] at hj
    obtain ⟨e, he, hke⟩ := hj
    exact absurd (congrArg Prod.fst hke) (f2 e (List.mem_of_getElem? he))
  · have hv : e.val = v := by
      rw [← h1, List.getElem?_map, Option.map_eq_some_iff] at hj
      obtain ⟨e', he', hke⟩ := hj
      have hkk : e'.key = e.key := by rw [f3]; exact congrArg Prod.fst hke
      have hij : j = i := by
        have hn := h2.2.2
        have g1 : (es.toList.map (·.key))[j]? = some e'.key := by simp [he']
        have g2 : (es.toList.map (·.key))[i]? = some e'.key := by simp [f2, hkk]
        exact (List.getElem?_inj (by simpa using (List.getElem?_eq_some_iff.1 he').1) hn).1 (g1.trans g2.symm)
      subst hij
      rw [he'] at f2
      cases f2
      exact congrArg Prod.snd hke
    simp [execOp, hx, hy, Instr.lookup, run_underlying ht, MapKept.run_getObj_map hb, run_checkKey hd hk, run_findKey hd f1, Result.andThen, hv]
/-- a key that is not there -/
theorem vlkz {zv : Value} {s by_ : Nat} (ht : P.underlying t = some (.map kt et)) (hd : P.underlying kt = some d) (hz : zeroT P et zv s by_) (hx : ev n ρ x = .map (some m)) (hy : ev n ρ y = k) (hk : IsKey d k) [hm : MpAt w0 A m d ps] (hj : ∀ p ∈ ps, p.1 ≠ k) : Val P w0 n ρ A ⟨dd, .lookup t x y false, T, pos, af, g⟩ zv := fun w hw => by
  obtain ⟨es, clk, ⟨h1, h2, h3⟩, hb⟩ := hm.mp w hw
  obtain ⟨i, z1, z2, _, _⟩ := hz
  rcases findNow_spec hk es.toList 0 h3 with ⟨f1, f2⟩ | ⟨i, e, f1, f2, f3⟩
  · simp [execOp, hx, hy, Instr.lookup, run_underlying ht, MapKept.run_getObj_map hb, run_checkKey hd hk, run_findKey hd f1, Result.andThen, zeroValue, typeInfo, z1, z2]
  · exact absurd f3 (hj (e.key, e.val) (by rw [← h1]; exact List.mem_map.2 ⟨e, List.mem_of_getElem? f2, rfl⟩))
/-- a key that is there gets another value -/
theorem mup {j : Nat} {u : Value} (ht : P.underlying t = some (.map kt et)) (hd : P.underlying kt = some d) (hx : ev n ρ x = .map (some m)) (hy : ev n ρ y = k) (hz : ev n ρ z = v) (hk : IsKey d k) (hj : ps[j]? = some (k, u))
    (h : WL P w0 n ops Q rest ρ (mp d m (ps.set j (k, v)) :: R)) : WL P w0 n ops Q (⟨none, .mapUpdate t x y z, T, pos, af, none⟩ :: rest) ρ (mp d m ps :: R) :=
  WL.step rfl fun w hw => by
    obtain ⟨es, clk, ⟨h1, h2, h3⟩, hO⟩ := hw.mp
    have hb := hO.heap.1
    rcases findNow_spec hk es.toList 0 h3 with ⟨_, f2⟩ | ⟨i, e, f1, f2, f3⟩
    · rw [← h1, List.getElem?_map, Option.map_eq_some_iff] at hj
      obtain ⟨e, he, hke⟩ := hj
      exact absurd (congrArg Prod.fst hke) (f2 e (List.mem_of_getElem? he))
    · have hij : j = i := by
        rw [← h1, List.getElem?_map, Option.map_eq_some_iff] at hj
        obtain ⟨e', he', hke⟩ := hj
        have hkk : e'.key = e.key := by rw [f3]; exact congrArg Prod.fst hke
        have hn := h2.2.2
        have g1 : (es.toList.map (·.key))[j]? = some e'.key := by simp [he']
        have g2 : (es.toList.map (·.key))[i]? = some e'.key := by simp [f2, hkk]
        exact (List.getElem?_inj (by simpa using (List.getElem?_eq_some_iff.1 he').1) hn).1 (g1.trans g2.symm)
      subst hij
      have hi : es[j]? = some e := by simpa using f2
      have hkey : ∀ e', es[j]? = some e' → ({ e' with key := k, val := v } : MapEntry).key = e'.key := fun e' he' => by rw [hi] at he'; cases he'; exact f3.symm
      refine ⟨.skip, _, _, _, by
        simp [execOp, hx, hy, hz, Instr.mapUpdate, run_underlying ht, MapKept.run_getObj_map hb, run_checkKey hd hk, run_findKey hd f1, hi, f3, run_keyThatStays hk, run_setObj_map _ hb, Result.andThen], rfl,
        Own.intro_mp (es := es.modify j fun e => { e with key := k, val := v }) (clk := clk) ⟨?_, stamped_modify h2 _ _ (fun _ _ => rfl) (fun e' _ he' => hkey e' he'), isKey_modify h3 _ _ hkey⟩ (hO.turned (Turned.setBlock hb)), h⟩
      rw [Array.toList_modify, ← h1]
      apply List.ext_getElem?
      intro q
      simp only [List.getElem?_map, List.getElem?_modify, List.getElem?_set]
      by_cases hq : j = q
      · subst hq
        have hjl : j < es.size := by simpa using (List.getElem?_eq_some_iff.1 f2).1
        simp [f2, hjl]
      · simp [hq]
/-- a new key -/
theorem mun (ht : P.underlying t = some (.map kt et)) (hd : P.underlying kt = some d) (hx : ev n ρ x = .map (some m)) (hy : ev n ρ y = k) (hz : ev n ρ z = v) (hk : IsKey d k) (hj : ∀ p ∈ ps, p.1 ≠ k)
    (h : WL P w0 n ops Q rest ρ (mp d m (ps ++ [(k, v)]) :: R)) : WL P w0 n ops Q (⟨none, .mapUpdate t x y z, T, pos, af, none⟩ :: rest) ρ (mp d m ps :: R) :=
  WL.step rfl fun w hw => by
    obtain ⟨es, clk, ⟨h1, h2, h3⟩, hO⟩ := hw.mp
    have hb := hO.heap.1
    rcases findNow_spec hk es.toList 0 h3 with ⟨f1, f2⟩ | ⟨i, e, f1, f2, f3⟩
    · refine ⟨.skip, _, _, _, by
        simp [execOp, hx, hy, hz, Instr.mapUpdate, run_underlying ht, MapKept.run_getObj_map hb, run_checkKey hd hk, run_findKey hd f1, run_setObj_map _ hb, Result.andThen], rfl,
        Own.intro_mp (es := es.push { key := k, val := v, born := clk }) (clk := clk + 1) ⟨by simp [h1], stamped_push h2 f2, fun x hx => ?_⟩ (hO.turned (Turned.setBlock hb)), h⟩
      simp only [Array.toList_push, List.mem_append, List.mem_singleton] at hx
      rcases hx with hx | rfl
      · exact h3 x hx
      · exact hk
    · exact absurd f3 (hj (e.key, e.val) (by rw [← h1]; exact List.mem_map.2 ⟨e, List.mem_of_getElem? f2, rfl⟩))
end
/-- the entries when a key gets a value: the old place, or the end -/
inductive PutE (ps : List (Value × Value)) (k v : Value) : List (Value × Value) → Prop
  | old (j : Nat) (u : Value) (h : ps[j]? = some (k, u)) : PutE ps k v (ps.set j (k, v))
  | new (h : ∀ p ∈ ps, p.1 ≠ k) : PutE ps k v (ps ++ [(k, v)])
section
variable {P : Program} {w0 : World} {n : Nat} {ops : Array Oper} {Q : Exit → Act → World → Prop} {ρ : Env} {R : List HProp} {rest : List Oper} {T : TypeId} {pos : String} {af : Array Edge} {x y z : Operand} {t kt et : TypeId} {d : TypeDesc} {m : Nat} {ps ps' : List (Value × Value)} {k v : Value}
/-- a key gets a value -/
theorem mpu (ht : P.underlying t = some (.map kt et)) (hd : P.underlying kt = some d) (hx : ev n ρ x = .map (some m)) (hy : ev n ρ y = k) (hz : ev n ρ z = v) (hk : IsKey d k) (hj : PutE ps k v ps')
    (h : WL P w0 n ops Q rest ρ (mp d m ps' :: R)) : WL P w0 n ops Q (⟨none, .mapUpdate t x y z, T, pos, af, none⟩ :: rest) ρ (mp d m ps :: R) := by
  cases hj with
  | old j u hj => exact mup ht hd hx hy hz hk hj h
  | new hj => exact mun ht hd hx hy hz hk hj h
end
theorem same_of {α β : Type} {f : α → β} {l : List α} (hn : (l.map f).Nodup) {a b : α} (ha : a ∈ l) (hb : b ∈ l) (h : f a = f b) : a = b := by
  obtain ⟨i, hi⟩ := List.mem_iff_getElem?.1 ha
  obtain ⟨j, hj⟩ := List.mem_iff_getElem?.1 hb
  have g1 : (l.map f)[i]? = some (f a) := by simp [hi]
  have g2 : (l.map f)[j]? = some (f a) := by simp [hj, h]
  have := (List.getElem?_inj (by simpa using (List.getElem?_eq_some_iff.1 hi).1) hn).1 (g1.trans g2.symm)
  subst this
  rw [hi] at hj
  exact Option.some.inj hj
/-- A map that is ranged over, its iterator, and the keys that came up (the last one first); no entry is laid in the meantime. -/
def mr (d : TypeDesc) (m : Nat) (ps : List (Value × Value)) (it : Nat) (vis : List Value) : HProp := fun h => ∃ es clk seen, (es.toList.map (fun e => (e.key, e.val)) = ps ∧ Stamped es clk ∧ ∀ x ∈ es.toList, IsKey d x.key) ∧
  ((∀ x ∈ es.toList, (seen.contains x.born = true ↔ x.key ∈ vis)) ∧ ∀ k vs, vis = k :: vs → ∃ (e : MapEntry) (seen' : Array Nat), e ∈ es.toList ∧ e.key = k ∧ seen = seen'.push e.born) ∧ star (pt m (.map es clk)) (pt it (.mapIter (some m) clk seen clk)) h
section
variable {w0 w : World} {A R : List HProp} {d : TypeDesc} {m it : Nat} {ps : List (Value × Value)} {vis : List Value}
theorem Own.mr (H : Own w0 (Sl.mr d m ps it vis :: R) w) : ∃ es clk seen, (es.toList.map (fun e => (e.key, e.val)) = ps ∧ Stamped es clk ∧ ∀ x ∈ es.toList, IsKey d x.key) ∧
    ((∀ x ∈ es.toList, (seen.contains x.born = true ↔ x.key ∈ vis)) ∧ ∀ k vs, vis = k :: vs → ∃ (e : MapEntry) (seen' : Array Nat), e ∈ es.toList ∧ e.key = k ∧ seen = seen'.push e.born) ∧ Own w0 (pt m (.map es clk) :: pt it (.mapIter (some m) clk seen clk) :: R) w := by
  obtain ⟨hb, h, ⟨h1, h2, ⟨es, clk, seen, c, c2, a⟩, a2, dd, x⟩, hw⟩ := H
  exact ⟨es, clk, seen, c, c2, Own.star ⟨hb, h, ⟨h1, h2, a, a2, dd, x⟩, hw⟩⟩
theorem Own.intro_mr {es : Array MapEntry} {clk : Nat} {seen : Array Nat} (hc : es.toList.map (fun e => (e.key, e.val)) = ps ∧ Stamped es clk ∧ ∀ x ∈ es.toList, IsKey d x.key)
    (hs : (∀ x ∈ es.toList, (seen.contains x.born = true ↔ x.key ∈ vis)) ∧ ∀ k vs, vis = k :: vs → ∃ (e : MapEntry) (seen' : Array Nat), e ∈ es.toList ∧ e.key = k ∧ seen = seen'.push e.born)
    (H : Own w0 (pt m (.map es clk) :: pt it (.mapIter (some m) clk seen clk) :: R) w) : Own w0 (Sl.mr d m ps it vis :: R) w := H.intro_star.head fun _ h => ⟨es, clk, seen, hc, hs, h⟩
theorem Own.mr_mp (H : Own w0 (Sl.mr d m ps it vis :: R) w) : Own w0 (Sl.mp d m ps :: R) w := by
  obtain ⟨es, clk, seen, hc, hs, hO⟩ := H.mr
  exact Own.intro_mp hc hO.pk1.tail
end
section
variable {P : Program} {w0 : World} {n : Nat} {ops : Array Oper} {Q : Exit → Act → World → Prop} {ρ : Env} {A R : List HProp} {rest : List Oper} {T : TypeId} {pos : String} {af : Array Edge} {x y z : Operand} {t kt et : TypeId} {d : TypeDesc} {m it dst : Nat} {ps : List (Value × Value)} {vis : List Value} {k v : Value} {dd : Option Tmp} {g : Option (Nat × Bool)}
/-- range over a map -/
theorem rgm (ht : P.underlying t = some (.map kt et)) (hx : ev n ρ x = .map (some m)) (h : ∀ it, WL P w0 n ops Q rest (set ρ dst (.pointer (some ⟨it, 0, none⟩))) (mr d m ps it [] :: R)) :
    WL P w0 n ops Q (⟨some dst, .range t x, T, pos, af, none⟩ :: rest) ρ (mp d m ps :: R) :=
  WL.step rfl fun w hw => by
    obtain ⟨es, clk, hc, hO⟩ := hw.mp
    have hb := hO.heap.1
    refine ⟨.value (.pointer (some ⟨w.heap.size, 0, none⟩)), w.alloc (.mapIter (some m) clk #[] clk), _, _, ?_, put_act .., Own.intro_mr (seen := #[]) hc ⟨by simp, fun k vs h => by cases h⟩ (hO.alloc _).pk1, h _⟩
    simp [execOp, hx, Instr.range, run_underlying ht, MapKept.run_getObj_map hb, Result.andThen]
/-- one step of a range -/
theorem nxm (hx : ev n ρ x = .pointer (some ⟨it, 0, none⟩)) (hmore : ∀ k v, (k, v) ∈ ps → k ∉ vis → WL P w0 n ops Q rest (set ρ dst (.tuple #[.bool true, k, v])) (mr d m ps it (k :: vis) :: R))
    (hend : (∀ p ∈ ps, p.1 ∈ vis) → WL P w0 n ops Q rest (set ρ dst (.tuple #[.bool false])) (mr d m ps it vis :: R)) :
    WL P w0 n ops Q (⟨some dst, .next x false, T, pos, af, none⟩ :: rest) ρ (mr d m ps it vis :: R) :=
  WL.step rfl fun w hw => by
    obtain ⟨es, clk, seen, hc, hs, hO⟩ := hw.mr
    have hb := hO.heap.1
    have hr := hO.pk1.heap.1
    rcases run_next_at (P := P) w T it m clk clk seen es clk hr hb hc.2.1.1 (Nat.le_refl _) with ⟨h0, hrun⟩ | ⟨e, he, w1, hw1, hrun⟩
    · refine ⟨.value (.tuple #[.bool false]), w, _, _, ?_, put_act .., hw, hend fun p hp => ?_⟩
      · simp only [execOp, hx]
        simp [hrun, Result.andThen]
      · rw [← hc.1] at hp
        obtain ⟨e, he, rfl⟩ := List.mem_map.1 hp
        have hno : leftOf es seen = #[] := Array.eq_empty_of_size_eq_zero h0
        have : e ∉ leftOf es seen := by rw [hno]; simp
        simp only [leftOf, Array.mem_filter, not_and, Bool.not_eq_true'] at this
        have h2 := this (by simpa using he)
        exact (hs.1 e he).1 (by simpa using h2)
    · have hel : e ∈ es.toList ∧ seen.contains e.born = false := by
        simp only [leftOf, Array.toList_filter, List.mem_filter, Bool.not_eq_true'] at he
        exact he
      have hnv : e.key ∉ vis := fun h => by
        have h3 := (hs.1 e hel.1).2 h
        rw [hel.2] at h3
        cases h3
      have hw1' : Own w0 (pt it (.mapIter (some m) clk seen clk) :: pt m (.map es clk) :: R) w1 := by
        rcases hw1 with rfl | rfl
        · exact hO.pk1
        · exact hO.pk1.drew
      have hr1 := hw1'.heap.1
      refine ⟨.value (.tuple #[.bool true, e.key, e.val]), setBlock w1 it (.mapIter (some m) clk (seen.push e.born) clk), _, _, ?_, put_act .., Own.intro_mr hc ⟨fun y hy => ?_, fun k vs hk => ?_⟩ (hw1'.turned (Turned.setBlock hr1)).pk1, hmore e.key e.val (by rw [← hc.1]; exact List.mem_map.2 ⟨e, hel.1, rfl⟩) hnv⟩
      · simp only [execOp, hx]
        simp [hrun, Result.andThen]
      · have hbk : y.born = e.born ↔ y.key = e.key := by
          constructor
          · intro h; rw [same_of hc.2.1.2.1 hy hel.1 h]
          · intro h; rw [same_of hc.2.1.2.2 hy hel.1 h]
        simp only [Array.contains_push, Bool.or_eq_true, beq_iff_eq, List.mem_cons, hs.1 y hy, hbk]
        exact or_comm
      · cases hk; exact ⟨e, seen, hel.1, rfl, rfl⟩
/-- the key and the value that came up last -/
theorem ven (hx : ev n ρ x = .pointer (some ⟨it, 0, none⟩)) (hk : (k, v) ∈ ps) : Val P w0 n ρ (mr d m ps it (k :: vis) :: R) ⟨dd, .entry x, T, pos, af, g⟩ (.tuple #[k, v]) := fun w hw => by
  obtain ⟨es, clk, seen, hc, hs, hO⟩ := hw.mr
  have hb := hO.heap.1
  have hr := hO.pk1.heap.1
  obtain ⟨e, seen', he, hek, hse⟩ := hs.2 k vis rfl
  subst hse
  have hrun := run_entry_at (P := P) w it m clk seen' es clk e hr hb he hc.2.1.2.1
  have hv : e.val = v := by
    rw [← hc.1] at hk
    obtain ⟨e', he', hke⟩ := List.mem_map.1 hk
    have h1 : e'.key = e.key := by rw [hek]; exact congrArg Prod.fst hke
    have h2 := same_of hc.2.1.2.2 he' he h1
    subst h2
    exact congrArg Prod.snd hke
  simp only [execOp, hx]
  simp [hrun, Result.andThen, hek, hv]
end
end Go.Sl
end
section
set_option linter.unusedVariables false
set_option linter.unusedSimpArgs false
namespace Go.Sl
open Go.RowKit
section
variable {P : Program} {w0 : World} {n : Nat} {ops : Array Oper} {Q : Exit → Act → World → Prop} {ρ : Env} {A R : List HProp} {rest : List Oper} {T : TypeId} {pos : String} {af : Array Edge} {x y z : Operand} {t t2 e : TypeId} {base : Option Addr} {l c sz dst : Nat} {dd : Option Tmp} {g : Option (Nat × Bool)}
theorem vslLHM {u : Operand} {k k' k2 : IntKind} {lo hi mx : Int} (ht : P.underlying t = some (.slice e)) (hs : sizeT P e sz = true) (hx : ev n ρ x = .slice base l c) (hlo : ev n ρ u = .int k2 lo) (hhi : ev n ρ y = .int k hi) (hmx : ev n ρ z = .int k' mx) (h00 : 0 ≤ lo) (h0 : lo ≤ hi) (h1 : hi ≤ mx) (h2 : mx ≤ c) :
    Val P w0 n ρ A ⟨dd, .slice t x (some u) (some y) (some z), T, pos, af, g⟩ (.slice (slB base lo.toNat mx.toNat sz) (hi.toNat - lo.toNat) (mx.toNat - lo.toNat)) := fun w hw => by
  have h3 : 0 ≤ mx := by omega
  have h6 : 0 ≤ hi := by omega
  have h4 : hi ≤ (mx.toNat : Int) := by omega
  have h5 : ¬ max mx 0 < hi := by omega
  have h7 : lo ≤ (hi.toNat : Int) := by omega
  have h8 : ¬ max hi 0 < lo := by omega
  have h9 : hi ≤ max mx 0 := by omega
  have h10 : lo ≤ max hi 0 := by omega
  simp [execOp, hx, hlo, hhi, hmx, Instr.sliceAt, run_underlying ht, Instr.slice, Instr.sliceBounds, Instr.sliceBound, asIntOf, h0, h00, h1, h2, h3, h4, h5, h6, h7, h8, h9, h10, run_sizeOf_of hs, slB]
/-- an operation's value in other words -/
theorem vw {o : Oper} {v v' : Value} (h : Val P w0 n ρ A o v) (e : v = v') : Val P w0 n ρ A o v' := e ▸ h
/-- a number turned to another kind, its value given -/
theorem vcw {src dst : TypeId} {k k2 : IntKind} {a b : Int} (hs : (P.underlying src).isSome = true) (hd : P.underlying dst = some (.int k)) (hx : ev n ρ x = .int k2 a) (hw : k.wrap a = b) : Val P w0 n ρ A ⟨dd, .convert src dst x, T, pos, af, g⟩ (.int k b) := hw ▸ vcv hs hd hx
theorem rdb {w0 : World} {A : List HProp} {base : Option Addr} {bs : List UInt8} (h : RdC w0 A base (u8s bs)) (lo m k : Nat) (hm : m = lo → k = 0) : RdC w0 A (slB base lo m 1) (u8s ((bs.drop lo).take k)) := by
  have := h.slice lo m 1 k hm
  rwa [Nat.mul_one, u8s_drop, u8s_take] at this
theorem rdbL {w0 : World} {A : List HProp} {base : Option Addr} {bs : List UInt8} (h : RdC w0 A base (u8s bs)) (lo m : Nat) (hm : bs.length ≤ m) : RdC w0 A (slB base lo m 1) (u8s (bs.drop lo)) := by
  have := rdb h lo m (bs.length - lo) (by omega)
  rwa [List.take_of_length_le (by rw [List.length_drop]; omega)] at this
theorem rdbT {w0 : World} {A : List HProp} {base : Option Addr} {bs : List UInt8} (h : RdC w0 A base (u8s bs)) (k : Nat) : RdC w0 A base (u8s (bs.take k)) := by
  have := h.take k
  rwa [u8s_take] at this
theorem made_row {w0 w : World} {R : List HProp} {b n : Nat} {e : TypeId} (hn : n ≤ maxLen) (H : Own w0 (cel b (madeCells (Value.int .u8 0).cells (n * 1)).toList e :: R) w) : Own w0 (row (some ⟨b, 0, none⟩) n 1 e (u8s []) :: R) w :=
  H.intro_row (List.nil_prefix) (by rw [made_rep rfl, List.length_replicate]) hn
theorem vslHM {k k' : IntKind} {hi mx : Int} (ht : P.underlying t = some (.slice e)) (hs : sizeT P e sz = true) (hx : ev n ρ x = .slice base l c) (hhi : ev n ρ y = .int k hi) (hmx : ev n ρ z = .int k' mx) (h0 : 0 ≤ hi) (h1 : hi ≤ mx) (h2 : mx ≤ c) :
    Val P w0 n ρ A ⟨dd, .slice t x none (some y) (some z), T, pos, af, g⟩ (.slice base hi.toNat mx.toNat) := fun w hw => by
  have h3 : 0 ≤ mx := by omega
  have h4 : hi ≤ (mx.toNat : Int) := by omega
  have h5 : ¬ max mx 0 < hi := by omega
  simp [execOp, hx, hhi, hmx, Instr.sliceAt, run_underlying ht, Instr.slice, Instr.sliceBounds, Instr.sliceBound, asIntOf, h0, h1, h2, h3, h4, h5, run_sizeOf_of hs]
  all_goals (cases base <;> simp [Addr.add])
  all_goals (exact fun h => absurd h h5)
/-- []byte of a string -/
theorem cvs {str : ByteArray} (ht : P.underlying t = some .string) (h2 : P.underlying t2 = some (.slice e)) (he : P.underlying e = some (.int .u8)) (hx : ev n ρ x = .string str) (hl : str.size ≤ maxLen)
    (h : ∀ g c', str.size ≤ c' → WL P w0 n ops Q rest (set ρ dst (.slice (some ⟨g, 0, none⟩) str.size c')) (row (some ⟨g, 0, none⟩) c' 1 e (u8s str.data.toList) :: A)) :
    WL P w0 n ops Q (⟨some dst, .convert t t2 x, T, pos, af, none⟩ :: rest) ρ A :=
  WL.step rfl fun w hw => by
    have hge := grownCap_ge w str.size 0 e
    have hcm := grownCap_le_maxLen w str.size 0 e hl
    have hlen : ((u8s str.data.toList) ++ List.replicate (grownCap w str.size 0 e - str.size) (Value.int .u8 0)).length = grownCap w str.size 0 e := by
      simp; omega
    have hO := (hw.drew.alloc (.cells ((u8s str.data.toList) ++ List.replicate (grownCap w str.size 0 e - str.size) (Value.int .u8 0)).toArray e))
    have hh : (World.alloc w.drew (.cells ((u8s str.data.toList) ++ List.replicate (grownCap w str.size 0 e - str.size) (Value.int .u8 0)).toArray e)).heap[w.heap.size]? = some (.cells ((u8s str.data.toList) ++ List.replicate (grownCap w str.size 0 e - str.size) (Value.int .u8 0)).toArray e) := hO.heap.1
    refine ⟨.value (.slice (some ⟨w.heap.size, 0, none⟩) str.size (grownCap w str.size 0 e)), ((World.alloc w.drew (.cells ((u8s str.data.toList) ++ List.replicate (grownCap w str.size 0 e - str.size) (Value.int .u8 0)).toArray e)).freeze ⟨w.heap.size, grownCap w str.size 0 e, none⟩ 1), _, _, ?_, put_act .., Own.intro_row (cur := (u8s str.data.toList) ++ List.replicate (grownCap w str.size 0 e - str.size) (Value.int .u8 0)) (List.prefix_append _ _) (by simpa using hlen) hcm (Own.intro_cel (fz := (grownCap w str.size 0 e, grownCap w str.size 0 e + 1)) ?_ (hO.turned ?_)), h _ _ hge⟩
    · have hs : (World.alloc w.drew (.cells ((u8s str.data.toList) ++ List.replicate (grownCap w str.size 0 e - str.size) (Value.int .u8 0)).toArray e)).shape? w.heap.size = some (e, grownCap w str.size 0 e) := by
        simp only [World.shape?, hh]
        simp
        omega
      have hA : ∀ k : Nat, ((u8s str.data.toList) ++ List.replicate k (Value.int .u8 0)).toArray = Array.map (fun b : UInt8 => Value.int .u8 (b.toNat : Int)) str.data ++ Array.replicate k (Value.int .u8 0) := fun k => by
        apply Array.ext'
        simp [u8s, u8v]
      rw [hA] at hs ⊢
      unfold grownCap at hs ⊢
      simp [execOp, hx, convert, run_underlying ht, run_underlying h2, run_underlying he, Conv.stringToBytes, Question.forced, markStringish, newRow, Result.andThen, hs]
    · unfold NF; right; rw [hlen]; simp
    · refine ⟨rfl, rfl, rfl, by simp [World.freeze], ?_, fun k hk => ?_⟩
      · simp only [World.freeze]
        rw [if_neg (by decide)]
        rw [Array.getElem?_modify, if_pos rfl, hh]
        rfl
      · have : ¬ w.heap.size = k := fun e => hk e.symm
        simp [World.freeze, Array.getElem?_modify, this]
end
end Go.Sl
end
section
set_option linter.unusedVariables false
set_option linter.unusedSimpArgs false
namespace Go.Sl
open Go.RowKit

/-- the arrays of byte slices -/
def rows (e : TypeId) : List (Sla UInt8) → HProp
  | [] => emp
  | a :: l => star (row a.base a.cap 1 e (u8s a.xs)) (rows e l)
theorem rows_snoc {w0 w : World} {e : TypeId} {y : Sla UInt8} : ∀ {l : List (Sla UInt8)} {A : List HProp}, Own w0 (row y.base y.cap 1 e (u8s y.xs) :: rows e l :: A) w → Own w0 (rows e (l ++ [y]) :: A) w
  | [], A, H => H.intro_star
  | z :: l, A, H => by
    have h1 := H.pk1.star.pk1.pk2
    exact ((rows_snoc (l := l) (h1.ix [0, 1, 2])).ix [1, 0]).intro_star
theorem RdC.of_rows {w0 : World} {A : List HProp} {e : TypeId} {l : List (Sla UInt8)} {x : Sla UInt8} (hm : rows e l ∈ A) (hx : x ∈ l) : RdC w0 A x.base (u8s x.xs) := fun w hw => by
  obtain ⟨R, hR⟩ := hw.mem hm
  clear hm hw
  induction l generalizing R with
  | nil => cases hx
  | cons z l ih =>
    have h1 := hR.star
    rcases List.mem_cons.1 hx with rfl | hx
    · exact RdC.of_row (A := row x.base x.cap 1 e (u8s x.xs) :: rows e l :: R) (List.Mem.head _) w h1
    · exact ih hx _ h1.pk1
theorem Own.nil_u8 {w0 w : World} {R : List HProp} {e : TypeId} (h : Own w0 R w) : Own w0 (Sl.row none 0 1 e (u8s []) :: R) w := h.intro_row_nil
theorem bss_snoc (l : List (Sla UInt8)) (y : Sla UInt8) : bss (l ++ [y]) = bss l ++ [.slice y.base y.xs.length y.cap] := by simp [bss]
/-- a fact that every world of a class bears -/
theorem WC.known {P : Program} {w0 : World} {n : Nat} {c : Code} {Q : Exit → Act → World → Prop} {ρ : Env} {A : List HProp} {p : Prop} (hp : ∀ w, Own w0 A w → p) (h : p → WC P w0 n c Q ρ A) : WC P w0 n c Q ρ A := ⟨fun w hw => (h (hp w hw)).run w hw⟩
theorem Fun.known {P : Program} {w0 : World} {f : FuncId} {args : List Value} {A : List HProp} {R : Ending → World → Prop} {p : Prop} (hp : ∀ w, Own w0 A w → p) (h : p → Fun P w0 f args A R) : Fun P w0 f args A R := ⟨fun w hw => (h (hp w hw)).run w hw⟩
end Go.Sl
end
section
set_option linter.unusedVariables false
set_option linter.unusedSimpArgs false
namespace Go.Sl
open Go.RowKit

section
variable {P : Program} {w0 : World} {n : Nat} {ops : Array Oper} {Q : Exit → Act → World → Prop} {ρ : Env} {A R : List HProp} {rest : List Oper} {T T2 : TypeId} {pos pos2 : String} {af af2 : Array Edge} {x y : Operand} {t e : TypeId} {base : Option Addr} {s by_ j l c d1 : Nat} {vs cs : List Value} {z v : Value} {dd : Option Tmp} {g : Option (Nat × Bool)} {d : Nat}
theorem add_add' (a : Addr) (i k : Nat) : (a.add i).add k = a.add (i + k) := by rw [Addr.add_add]
/-- a field of an element of an array -/
theorem vfldr {f off : Nat} (hb : base.isSome = true) (hf : fieldT P t f off = true) (hx : ev n ρ x = .pointer (base.map (·.add j))) : Val P w0 n ρ A ⟨dd, .fieldAddr t x f, T, pos, af, g⟩ (.pointer (base.map (·.add (j + off)))) := by
  obtain ⟨a, rfl⟩ := Option.isSome_iff_exists.1 hb
  have := vfld (P := P) (w0 := w0) (A := A) (d := dd) (T := T) (pos := pos) (af := af) (g := g) hf hx
  rw [add_add'] at this
  exact this
theorem vnilr (hb : base.isSome = true) (hx : ev n ρ x = .pointer (base.map (·.add j))) : Val P w0 n ρ A ⟨dd, .nilCheck x, T, pos, af, g⟩ (.pointer (base.map (·.add j))) := by
  obtain ⟨a, rfl⟩ := Option.isSome_iff_exists.1 hb
  exact vnil hx
/-- a load of a whole struct -/
theorem vlda (ht : aggT P t = true) (hs : sizeT P t s = true) (hx : ev n ρ x = .pointer (base.map (·.add j))) (hR : RdC w0 A base vs) (hj : (vs.drop j).take s = cs) (hl : cs.length = s) (h0 : 0 < s) : Val P w0 n ρ A ⟨dd, .load t x, T, pos, af, g⟩ (.agg cs.toArray) := fun w hw => by
  have hR := hR w hw
  have hget : ∀ k v, cs[k]? = some v → vs[j + k]? = some v := fun k v hk => by
    rw [← hj, List.getElem?_take, List.getElem?_drop] at hk
    split at hk
    · exact hk
    · cases hk
  obtain ⟨a, rfl⟩ : ∃ a, base = some a := by
    obtain ⟨v, hv⟩ : ∃ v, cs[0]? = some v := ⟨_, List.getElem?_eq_getElem (by omega)⟩
    obtain ⟨a, ha, _⟩ := hR _ v (hget 0 v hv)
    exact ⟨_, ha⟩
  have hl2 := run_loadCells_list (P := P) w (a.add j) cs (fun k v hv => by
    obtain ⟨a', ha, hc⟩ := hR _ v (hget k v hv)
    cases ha
    rw [add_add']; exact hc)
  rw [hl] at hl2
  simp [execOp, hx, Instr.loadAt, Instr.sureAddr, loadVar, run_isAgg_agg ht, run_sizeOf_of hs, hl2]
theorem fold_sets : ∀ (cs : List Value) (k o : Nat) (cur : Array Value), o + k + cs.length ≤ cur.size →
    (cs.zipIdx k).foldl (fun (a : Array Value) (x : Value × Nat) => a.setIfInBounds (o + x.2) x.1) cur = (cur.toList.take (o + k) ++ cs ++ cur.toList.drop (o + k + cs.length)).toArray
  | [], k, o, cur, h => by simp
  | v :: cs, k, o, cur, h => by
    simp only [List.zipIdx_cons, List.foldl_cons]
    simp only [List.length_cons] at h
    rw [show (fun (a : Array Value) (x : Value × Nat) => a.setIfInBounds (o + x.2) x.1) = (fun (a : Array Value) (x : Value × Nat) => a.setIfInBounds (o + x.2) x.1) from rfl]
    have ih := fold_sets cs (k + 1) o (cur.setIfInBounds (o + k) v) (by simp; omega)
    rw [ih]
    congr 1
    have hlt : o + k < cur.toList.length := by simp; omega
    rw [show (cur.setIfInBounds (o + k) v).toList = cur.toList.set (o + k) v by simp]
    rw [show o + (k + 1) = (o + k) + 1 by omega, List.take_succ_eq_append_getElem (by simpa using hlt), List.take_set, List.set_eq_of_length_le (by rw [List.length_take]; omega)]
    rw [List.drop_set, if_pos (by omega), List.getElem_set_self]
    simp only [List.append_assoc, List.singleton_append, List.length_cons, List.cons_append, List.nil_append]
    rw [show o + k + 1 + cs.length = o + k + (cs.length + 1) by omega]
theorem run_buildSliceA (ht : P.underlying t = some (.slice e)) (hz : zeroT P e z s by_) (w : World) (hc : v.cells.toList = cs) (hs : cs.length = s) (h0 : 0 < s) (h1 : s ≤ 1000) :
    (Instr.buildSlice t 1 #[(0, v)]).run P w = .ok (.slice (some ⟨w.heap.size, 0, none⟩) 1 1) (w.alloc (.cells cs.toArray e)) := by
  obtain ⟨i, hi, hz, hsz, _⟩ := hz
  have hsize : ∀ w, (sizeOf e).run P w = .ok s w := fun w => by simp [sizeOf, typeInfo, hi, hsz]
  have hle : ¬ (1 * s > 2 ^ 24) := by
    have : (2:Nat)^24 = 16777216 := by decide
    omega
  have hz1 : ∀ w, (zeroValue e).run P w = .ok z w := fun w => by simp [zeroValue, typeInfo, hi, hz]
  have hvs : v.cells.size = s := by rw [← hs, ← hc]; simp
  have hfill : ∀ (zero : Array Value), Instr.fill (fun i => some (i * s, s)) ((Array.range (1 * s)).map (zero[· % zero.size]!)) [(0, v)] = some cs.toArray := fun zero => by
    have hcond : ¬ (decide (v.cells.size ≠ s) || decide (0 * s + v.cells.size > ((Array.range (1 * s)).map (zero[· % zero.size]!)).size)) = true := by simp [hvs]
    simp only [Instr.fill]
    rw [if_neg hcond]
    congr 1
    have hv : v.cells = cs.toArray := by rw [← hc]
    have key := fold_sets cs 0 (0 * s) ((Array.range (1 * s)).map (zero[· % zero.size]!)) (by simp [hs])
    rw [hv]
    have hzip : (cs.toArray.zipIdx).foldl (fun (a : Array Value) (x : Value × Nat) => a.setIfInBounds (0 * s + x.2) x.1) ((Array.range (1 * s)).map (zero[· % zero.size]!)) = (cs.zipIdx 0).foldl (fun (a : Array Value) (x : Value × Nat) => a.setIfInBounds (0 * s + x.2) x.1) ((Array.range (1 * s)).map (zero[· % zero.size]!)) := by simp
    refine hzip.trans (key.trans ?_)
    congr 1
    rw [List.drop_eq_nil_of_le (by simp [hs])]
    simp
  unfold Instr.buildSlice
  simp only [Sem.run_bind, run_underlying ht, Result.andThen_ok, hsize, if_neg hle]
  have h0' : ¬ 1 * s = 0 := by omega
  simp only [if_neg h0', Sem.run_bind, Sem.run_pure, Result.andThen_ok, hz1, hfill z.cells]
  simp [newRow]
/-- a slice literal of one struct -/
theorem bslA (ht : P.underlying t = some (.slice e)) (hz : zeroT P e z s by_) (hx : ev n ρ x = v) (hc : v.cells.toList = cs) (hs : cs.length = s) (h0 : 0 < s) (h1 : s ≤ 1000)
    (h : ∀ b, WL P w0 n ops Q rest (set ρ d (.slice (some ⟨b, 0, none⟩) 1 1)) (cel b cs e :: A)) :
    WL P w0 n ops Q (⟨some d, .buildSlice t 1 #[(0, x)], T, pos, af, none⟩ :: rest) ρ A :=
  WL.step rfl fun w hw => by
    have hr := run_buildSliceA (P := P) ht hz w hc hs h0 h1
    exact ⟨.value _, w.alloc (.cells cs.toArray e), _, _, by simp [execOp, hx, hr]; rfl, put_act .., Own.intro_cel (fz := (0, 0)) (NF.zero _) (by simpa using hw.alloc _), h _⟩
/-- append(xs, v) for a struct v -/
theorem apA (ht : P.underlying t = some (.slice e)) (hz : zeroT P e z s by_) (hzs : Nat.beq z.cells.size s = true) (hx : ∀ u, ev n (set ρ d1 u) x = .slice base l c) (hd : ∀ u, ev n (set ρ d1 u) (.tmp d1) = u) (hy : ev n ρ y = v) (hc : v.cells.toList = cs) (hs : cs.length = s) (h0 : 0 < s) (h1 : s ≤ 1000) (ho : ∀ v ∈ cs, v.oneCell' = true)
    (hl : vs.length = l * s) (h63 : l + 1 ≤ maxLen) (hby : (l + 1) * by_ ≤ 140737488355328)
    (h : ∀ g base' c', l + 1 ≤ c' → WL P w0 n ops Q rest (set (set ρ d1 (.slice (some ⟨g, 0, none⟩) 1 1)) d (.slice base' (l + 1) c')) (row base' c' s e (vs ++ cs) :: R)) :
    WL P w0 n ops Q (⟨some d1, .buildSlice t 1 #[(0, y)], T, pos, af, none⟩ :: ⟨some d, .call ⟨.builtin .append, #[x, .tmp d1], #[t, t]⟩, T2, pos2, af2, none⟩ :: rest) ρ (row base c s e vs :: R) :=
  bslA ht hz hy hc hs h0 h1 fun g => by
    refine WL.perm (A' := row base c s e vs :: cel g cs e :: R) ?_ (fun w hw => hw.pk1)
    refine ap (by simpa using h0) ht hz hzs (hx _) (hd _) hl (m := 1) (news := cs) (by rw [hs, Nat.one_mul]) ho (RdC.of_cel 0 (List.Mem.tail _ (List.Mem.head _)) (by simp)) h63 hby fun base' c' hc' => ?_
    exact WL.perm (h g base' c' hc') (fun w hw => hw.pk1.tail)
/-- a store of a whole struct -/
theorem stA {b : Nat} {old : List Value} (hs : sizeT P t s = true) (hx : ev n ρ x = .pointer (some ⟨b, 0, none⟩)) (hv : ev n ρ y = .agg cs.toArray) (hl : cs.length = s) (ho : old.length = s) (h1 : ∀ v ∈ cs, v.oneCell' = true)
    (h : WL P w0 n ops Q rest ρ (cel b cs e :: R)) : WL P w0 n ops Q (⟨none, .store t x y, T, pos, af, none⟩ :: rest) ρ (cel b old e :: R) :=
  WL.step rfl fun w hw => by
    obtain ⟨fz, hf, hO⟩ := hw.cel
    obtain ⟨w', hr, hT⟩ := run_storeCells_cel (P := P) (o := 0) cs 0 old w hO.heap.1 hf (by simp; omega) h1
    have hsp : splice old 0 cs = cs := by
      unfold splice
      simp only [List.take_zero, List.nil_append, Nat.zero_add]
      rw [List.drop_eq_nil_of_le (by omega), List.append_nil]
    have hr' : (storeCells ⟨b, 0, none⟩ cs).run P w = .ok () w' := by simpa using hr
    refine ⟨.skip, w', _, _, ?_, rfl, Own.intro_cel (fz := fz) (by rw [hl, ← ho]; exact hf) (hO.turned (by simpa [hsp] using hT)), h⟩
    simp [execOp, hx, hv, Instr.storeAt, Instr.sureAddr, storeVar, Value.cells, run_sizeOf_of hs, hl, hr', Result.andThen]
end
theorem flat_at {α : Type} {f : α → List Value} {s : Nat} : ∀ {l : List α} {i k : Nat}, (∀ x ∈ l, (f x).length = s) → (h : i < l.length) → k < s → (l.flatMap f)[i * s + k]? = (f l[i])[k]?
  | [], _, _, _, h, _ => by simp at h
  | y :: l, 0, k, hs, h, hk => by
    have := hs y (by simp)
    rw [List.flatMap_cons, Nat.zero_mul, Nat.zero_add, List.getElem?_append_left (by omega)]; rfl
  | y :: l, i + 1, k, hs, h, hk => by
    have hy := hs y (by simp)
    rw [List.flatMap_cons, List.getElem?_append_right (by rw [hy, Nat.succ_mul]; omega), hy]
    have e : (i + 1) * s + k - s = i * s + k := by rw [Nat.succ_mul]; omega
    rw [e, flat_at (fun x hx => hs x (by simp [hx])) (by simpa using h) hk]
    rfl
theorem flat_take {α : Type} {f : α → List Value} {s : Nat} : ∀ {l : List α} {i : Nat}, (∀ x ∈ l, (f x).length = s) → (h : i < l.length) → ((l.flatMap f).drop (i * s)).take s = f l[i]
  | [], _, _, h => by simp at h
  | y :: l, 0, hs, h => by
    have := hs y (by simp)
    rw [List.flatMap_cons, Nat.zero_mul, List.drop_zero]
    exact List.take_left' this
  | y :: l, i + 1, hs, h => by
    have hy := hs y (by simp)
    rw [List.flatMap_cons, Nat.succ_mul, Nat.add_comm, ← List.drop_drop, List.drop_left' hy, flat_take (fun x hx => hs x (by simp [hx])) (by simpa using h)]
    rfl
theorem flat_len {α : Type} {f : α → List Value} {s : Nat} {l : List α} (hs : ∀ x ∈ l, (f x).length = s) : (l.flatMap f).length = l.length * s := by
  induction l with
  | nil => simp
  | cons y l ih => rw [List.flatMap_cons, List.length_append, ih fun x hx => hs x (by simp [hx]), hs y (by simp), List.length_cons, Nat.succ_mul]; omega
end Go.Sl
end
section
set_option linter.unusedVariables false
set_option linter.unusedSimpArgs false
namespace Go.Sl
open Go.RowKit
open Go.MapKept

/-! ### Out of the plain walk into a round's frame, or behind marks -/
def fence (r : Option Nat) : Fence := { Fence.wide with round := r }
def behind (ds : List Deferred) (Q : Exit → Act → World → Prop) : Exit → Act → World → Prop
  | .outgrown, _, _ => False
  | e, a, w => Q e { a with defers := a.defers ++ ds } w
def noDefer (o : Oper) : Bool := match o.op with
  | .defer _ => false
  | _ => true
theorem noDefer_spec {o : Oper} (h : noDefer o = true) : ∀ c, o.op ≠ .defer c := fun c hc => by simp [noDefer, hc] at h
theorem not_out {ds : List Deferred} {Q : Exit → Act → World → Prop} : ¬ LetsOut (behind ds Q) := fun ⟨_, _, h⟩ => h
theorem callsIn_fence {r : Option Nat} {k : Nat} {P : Program} {f : FuncId} {args : Array Value} {w : World} {R : Ending → World → Prop} : CallsIn (fence r) k P f args w R ↔ Calls P f args w R := callsIn_wide
theorem rowsIn_fence {r : Option Nat} {k : Nat} {P : Program} {row : String} {args : Array Value} {w : World} {R : Value → World → Prop} (h : Rows P row args w R) : RowsIn (fence r) k P row args w R :=
  fun c cs _ => let ⟨v, w', hr, hs⟩ := h c cs; ⟨v, w', hr, stepsIn_wide.2 hs⟩
theorem put_app (a : Act) (ds : List Deferred) (d : Option Tmp) (v : Value) : ({ a with defers := a.defers ++ ds } : Act).put d v = { a.put d v with defers := (a.put d v).defers ++ ds } := by
  cases d <;> rfl
theorem uponIn_of {P : Program} {r : Option Nat} {k : Nat} {ds : List Deferred} {o : Oper} {a : Act} {next next' : Act → World → Prop} {Q : Exit → Act → World → Prop} (hn : ∀ a w, next a w → next' { a with defers := a.defers ++ ds } w) (res : Result Next)
    (h : o.upon P a next (behind ds Q) res) : o.uponIn (fence r) k P { a with defers := a.defers ++ ds } next' Q res := by
  cases res with
  | ok x w =>
    cases x <;> simp only [Oper.upon] at h <;> simp only [Oper.uponIn]
    all_goals first
      | (rw [put_app]; exact hn _ _ h)
      | (have := hn _ _ h; cases hd : o.dst <;> simpa [hd, Act.put] using this)
      | (refine ⟨fun h0 => by simp [fence, Fence.wide] at h0, callsIn_fence.2 (Calls.mono h fun e w'' he => ?_)⟩
         cases e with
         | returned v => simp only at he ⊢; rw [put_app]; exact hn _ _ he
         | panicked c => exact he
         | outgrown => exact absurd he not_out)
      | (refine ⟨fun h0 => by simp [fence, Fence.wide] at h0, rowsIn_fence (Rows.mono h fun v w'' he => ?_)⟩
         rw [put_app]; exact hn _ _ he)
      | exact h
  | halt x w => cases x <;> simp only [Oper.upon] at h <;> simp only [Oper.uponIn] <;> exact h
theorem ops_behind {P : Program} {r : Option Nat} {ds : List Deferred} {ops : Array Oper} {Q : Exit → Act → World → Prop} (hd : ∀ (i : Nat) (o : Oper), ops[i]? = some o → noDefer o = true) : ∀ (l : List Nat) (a : Act) (w : World),
    wpOps P ops (behind ds Q) l a w → wpOpsIn (fence r) 0 P ops Q l { a with defers := a.defers ++ ds } w
  | [], a, w, h => h
  | i :: l, a, w, h => by
    simp only [wpOps, wpOpsIn] at h ⊢
    cases ho : ops[i]? with
    | none => simp only [ho] at h ⊢; exact ops_behind hd l a w h
    | some o =>
      simp only [ho] at h ⊢
      split
      · rename_i hw
        simp only [hw, if_true] at h
        refine ⟨fun _ _ => trivial, ?_⟩
        rw [Oper.semAt_eq _ _ _ (noDefer_spec (hd i o ho))]
        rcases h with h | ⟨_, h⟩
        · exact uponIn_of (fun a w h => ops_behind hd l a w h) _ h
        · exact absurd h not_out
      · rename_i hw
        simp only [hw, if_false, Bool.false_eq_true] at h
        refine ⟨fun _ _ => trivial, ?_⟩
        rw [put_app]
        exact ops_behind hd l _ w h
section
variable {P : Program} {w0 : World} {n : Nat} {r : Option Nat} {ds : List Deferred} {Q Q' : Exit → Act → World → Prop} {ρ : Env} {A A' : List HProp} {x y c : Code} {l l0 : List Oper}
/-- code walked in a round's frame, or behind marks -/
structure WG (P : Program) (w0 : World) (r : Option Nat) (ds : List Deferred) (n : Nat) (c : Code) (Q : Exit → Act → World → Prop) (ρ : Env) (A : List HProp) : Prop where
  run : ∀ w, Own w0 A w → c.wpIn (fence r) 0 P Q ⟨arr n ρ, ds⟩ w
theorem WG.perm (h : WG P w0 r ds n c Q ρ A') (hA : ∀ w, Own w0 A w → Own w0 A' w) : WG P w0 r ds n c Q ρ A := ⟨fun w hw => h.run w (hA w hw)⟩
theorem WG.known {p : Prop} (hp : ∀ w, Own w0 A w → p) (h : p → WG P w0 r ds n c Q ρ A) : WG P w0 r ds n c Q ρ A := ⟨fun w hw => (h (hp w hw)).run w hw⟩
theorem behind_n {e : Exit} (he : e ≠ .outgrown) {a : Act} {w : World} (h : Q e { a with defers := a.defers ++ ds } w) : behind ds Q e a w := by cases e <;> first | exact h | exact absurd rfl he
theorem WG.seq (h : WG P w0 r ds n x (Exit.then (y.wpIn (fence r) 0 P Q) Q) ρ A) : WG P w0 r ds n (.seq x y) Q ρ A := ⟨fun w hw => wpIn_seq (h.run w hw)⟩
theorem WG.block {i : Nat} (h : WG P w0 r ds n c (Exit.inBlock i Q) ρ A) : WG P w0 r ds n (.block i c) Q ρ A := ⟨fun w hw => wpIn_block (h.run w hw)⟩
theorem WG.skip (h : WX w0 n (behind ds Q) .normal ρ A) : WG P w0 r ds n .skip Q ρ A := ⟨fun w hw => wpIn_skip (h.run w hw)⟩
theorem WG.ret (h : WX w0 n (behind ds Q) .ret ρ A) : WG P w0 r ds n .ret Q ρ A := ⟨fun w hw => wpIn_ret (h.run w hw)⟩
theorem WG.ite {p : Prop} [Decidable p] {o : Operand} (hc : ev n ρ o = .bool (decide p)) (ht : p → WG P w0 r ds n x Q ρ A) (hf : ¬ p → WG P w0 r ds n y Q ρ A) : WG P w0 r ds n (.cond o x y) Q ρ A := ⟨fun w hw => by
  have he : (⟨arr n ρ, ds⟩ : Act).eval o = .bool (decide p) := by rw [← hc, ← eval_act]; rfl
  exact wpIn_cond_split he (fun h => (ht (by simpa using h)).run w hw) (fun h => (hf (by simpa using h)).run w hw)⟩
theorem WG.tt {o : Operand} (hc : ev n ρ o = .bool true) (h : WG P w0 r ds n x Q ρ A) : WG P w0 r ds n (.cond o x y) Q ρ A := ⟨fun w hw => by
  have he : (⟨arr n ρ, ds⟩ : Act).eval o = .bool true := by rw [← hc, ← eval_act]; rfl
  exact wpIn_cond_true he (h.run w hw)⟩
theorem WG.ff {o : Operand} (hc : ev n ρ o = .bool false) (h : WG P w0 r ds n y Q ρ A) : WG P w0 r ds n (.cond o x y) Q ρ A := ⟨fun w hw => by
  have he : (⟨arr n ρ, ds⟩ : Act).eval o = .bool false := by rw [← hc, ← eval_act]; rfl
  exact wpIn_cond_false he (h.run w hw)⟩
theorem arr_defers : (({ (act n ρ) with defers := (act n ρ).defers ++ ds } : Act)) = ⟨arr n ρ, ds⟩ := rfl
theorem hd_of {l : List Oper} (hd : l.all noDefer = true) : ∀ (i : Nat) (o : Oper), (l.toArray)[i]? = some o → noDefer o = true := fun i o h => by
  have : o ∈ l := List.mem_of_getElem? (by simpa using h)
  exact List.all_eq_true.1 hd o this
theorem WG.region {i : Nat} (hd : l.all noDefer = true) (h : WL P w0 n l.toArray (behind ds Q) l ρ A) : WG P w0 r ds n (.region i l.toArray false) Q ρ A := ⟨fun w hw => by
  refine wpIn_region ?_
  have := ops_behind (r := r) (hd_of hd) (List.range l.toArray.size) (act n ρ) w (by
    rw [List.range_eq_range', ← Array.length_toList, wpOps_eq_wpList l.toArray.toList 0 (by simp)]
    simpa using h.run w hw)
  exact this⟩
theorem WG.draws {i : Nat} (hm : P.follows .mixedOrders = true) (hB : (Region.lexB .any l.toArray && l.all noDefer) = true) (h : WQ P w0 n l.toArray (behind ds Q) l ρ A) : WG P w0 r ds n (.region i l.toArray true) Q ρ A := ⟨fun w hw => by
  simp only [Bool.and_eq_true] at hB
  obtain ⟨hB, hd⟩ := hB
  simp only [Region.lexB, Bool.and_eq_true] at hB
  refine wpIn_region_draw fun t => ?_
  simp only [Region.schedule, hm, Bool.true_or, if_true]
  refine ops_behind (r := r) (hd_of hd) _ (act n ρ) _ (wpAny_sound _ t _ _ _ ?_)
  refine wpAny_of_quiet (C := Own w0 A) (Q := fun a' => ∀ w', Own w0 A w' → behind ds Q .normal a' w') (fun _ w' hw' h => h w' hw') _ _ _ _ hw.drew ?_
  have := wpAnyQ_lex (C := Own w0 A) (md := .any) hB.1 l.toArray.toList 0 (Array.replicate l.toArray.size false) (act n ρ) (by simp) (by simpa using hB.2) (by simpa using h.run)
  simpa using this⟩
theorem WG.plan {i : Nat} (p : Plan) (hm : P.follows .mixedOrders = true) (hB : (topB l0.toArray p && l0.all noDefer) = true) (h : WPl P w0 n l0 (barP p) (behind ds Q) (fun _ => True) p ρ A) : WG P w0 r ds n (.region i l0.toArray true) Q ρ A := ⟨fun w hw => by
  simp only [Bool.and_eq_true] at hB
  obtain ⟨hB, hd⟩ := hB
  simp only [topB, Bool.and_eq_true] at hB
  obtain ⟨_, h3⟩ := h.run hB.1.1
  refine wpIn_region_draw fun t => ?_
  simp only [Region.schedule, hm, Bool.true_or, if_true]
  exact ops_behind (r := r) (hd_of hd) _ (act n ρ) _ (wpAny_sound _ t _ _ _ (wpAny_of_G _ _ _ _ _ _ hw.drew (h3 _ _ hB.2 (by have := hB.1.2; simpa using this))))⟩
theorem wide_fence : Fence.wide = fence none := rfl
theorem WX.gthenN (h : WG P w0 none ds n y Q' ρ A) : WX w0 n (behind ds (Exit.then (y.wp P Q') Q)) .normal ρ A := ⟨fun w hw => wpIn_wide.1 (h.run w hw)⟩
theorem WX.gthenM (h : WG P w0 r ds n y Q' ρ A) : WX w0 n (behind ds (Exit.then (y.wpIn (fence r) 0 P Q') Q)) .normal ρ A := ⟨h.run⟩
theorem WX.gthenR {K : Act → World → Prop} (h : WX w0 n (behind ds Q) .ret ρ A) : WX w0 n (behind ds (Exit.then K Q)) .ret ρ A := ⟨h.run⟩
theorem WX.gblockN {i : Nat} (h : WX w0 n (behind ds Q) .normal ρ A) : WX w0 n (behind ds (Exit.inBlock i Q)) .normal ρ A := ⟨h.run⟩
theorem WX.gblockR {i : Nat} (h : WX w0 n (behind ds Q) .ret ρ A) : WX w0 n (behind ds (Exit.inBlock i Q)) .ret ρ A := ⟨h.run⟩
end

/-! ### The iterator: its call of yield -/
section
variable {P : Program} {w0 : World} {n : Nat} {ops : Array Oper} {Q : Exit → Act → World → Prop} {ρ : Env} {A A' : List HProp} {rest : List Oper}
/-- a call of yield: what it takes and leaves; the rounds go on -/
def YieldA (P : Program) (w0 : World) (l : Nat) (v : Value) (A A' : List HProp) : Prop := ∀ w, Own w0 A w → ∃ fn tmps assign body, (Instr.yield l #[v]).run P w = .ok (.round l fn tmps assign body) w ∧
  RoundIn Fence.wide 0 P l fn tmps assign body w fun e w' => e = .returned (.bool true) ∧ Own w0 A' w'
structure WLI (P : Program) (w0 : World) (n : Nat) (ops : Array Oper) (Q : Exit → Act → World → Prop) (l : List Oper) (ρ : Env) (A : List HProp) : Prop where
  run : ∀ w, Own w0 A w → wpListIn Fence.wide 0 P ops Q l (act n ρ) w
theorem listIn_step {o : Oper} {a : Act} {w : World}
    (h : if Region.wanted o (yielded ops a.tmps) then o.wpIn Fence.wide 0 P a w (wpListIn Fence.wide 0 P ops Q rest) Q else wpListIn Fence.wide 0 P ops Q rest (a.put o.dst undef) w) : wpListIn Fence.wide 0 P ops Q (o :: rest) a w := by
  unfold wpListIn
  split
  · rename_i hw; rwa [if_pos hw] at h
  · rename_i hw; rw [if_neg hw] at h; exact ⟨fun _ _ => trivial, h⟩
theorem WC.regionI {i : Nat} {l : List Oper} (h : WLI P w0 n l.toArray Q l ρ A) : WC P w0 n (.region i l.toArray false) Q ρ A := ⟨fun w hw => by
  refine (wpIn_wide (n := 0)).1 (wpIn_region_lit (h.run w hw))⟩
theorem WLI.nil (h : WX w0 n Q .normal ρ A) : WLI P w0 n ops Q [] ρ A := ⟨fun w hw => h.run w hw⟩
variable {d : Nat} {op : Op} {T : TypeId} {pos : String} {af : Array Edge} {v : Value} {g : Nat} {b : Bool}
theorem WLI.sv (hv : Val P w0 n ρ A ⟨some d, op, T, pos, af, none⟩ v) (h : WLI P w0 n ops Q rest (set ρ d v) A) : WLI P w0 n ops Q (⟨some d, op, T, pos, af, none⟩ :: rest) ρ A := by
  refine ⟨fun w hw => listIn_step ?_⟩
  rw [if_pos (by simp [Region.wanted])]
  refine ⟨fun _ _ => trivial, ?_⟩
  have : (Oper.semAt Fence.wide.round (act n ρ).eval ⟨some d, op, T, pos, af, none⟩).run P w = .ok (.value v) w := by
    show (execOp _ _).run P w = _
    rw [eval_act, hv w hw]
  rw [this, Oper.uponIn_value, put_act]
  exact h.run w hw
theorem WLI.svg (hg : yieldN n ρ ops g = some b) (hv : Val P w0 n ρ A ⟨some d, op, T, pos, af, some (g, b)⟩ v) (h : WLI P w0 n ops Q rest (set ρ d v) A) : WLI P w0 n ops Q (⟨some d, op, T, pos, af, some (g, b)⟩ :: rest) ρ A := by
  refine ⟨fun w hw => listIn_step ?_⟩
  have hw' : Region.wanted ⟨some d, op, T, pos, af, some (g, b)⟩ (yielded ops (act n ρ).tmps) = true := by
    simp only [Region.wanted, act, yielded_arr, hg, beq_self_eq_true]
  rw [if_pos hw']
  refine ⟨fun _ _ => trivial, ?_⟩
  have : (Oper.semAt Fence.wide.round (act n ρ).eval ⟨some d, op, T, pos, af, some (g, b)⟩).run P w = .ok (.value v) w := by
    show (execOp _ _).run P w = _
    rw [eval_act, hv w hw]
  rw [this, Oper.uponIn_value, put_act]
  exact h.run w hw
theorem WLI.sng (hg : (yieldN n ρ ops g == some b) = false) (h : WLI P w0 n ops Q rest (set ρ d undef) A) : WLI P w0 n ops Q (⟨some d, op, T, pos, af, some (g, b)⟩ :: rest) ρ A := by
  refine ⟨fun w hw => listIn_step ?_⟩
  have hw' : ¬ Region.wanted ⟨some d, op, T, pos, af, some (g, b)⟩ (yielded ops (act n ρ).tmps) = true := by
    simp only [Region.wanted, act, yielded_arr, hg]; simp
  rw [if_neg hw', put_act]
  exact h.run w hw
theorem run_yv {x y : Operand} {l : Nat} {tys : Array TypeId} {o : Option (Nat × Bool)} {fn : FuncId} {tmps : Array Value} {assign body : Code} {w : World} (hx : ev n ρ x = .func (.yield l) #[] #[]) (hy : ev n ρ y = v) (hr : (Instr.yield l #[v]).run P w = .ok (.round l fn tmps assign body) w) :
    (execOp (ev n ρ) ⟨some d, .call ⟨.value x, #[y], tys⟩, T, pos, af, o⟩).run P w = .ok (.round l fn tmps assign body) w := by
  simp only [execOp, resolve, hx, hy, Deferred.ofValue, Sem.run_bind, Sem.run_pure, Result.andThen_ok, invoke]
  simpa [hy] using hr
theorem WLI.yg {x y : Operand} {l : Nat} {tys : Array TypeId} (hg : yieldN n ρ ops g = some b) (hx : ev n ρ x = .func (.yield l) #[] #[]) (hy : ev n ρ y = v) (hY : YieldA P w0 l v A A')
    (h : WLI P w0 n ops Q rest (set ρ d (.bool true)) A') : WLI P w0 n ops Q (⟨some d, .call ⟨.value x, #[y], tys⟩, T, pos, af, some (g, b)⟩ :: rest) ρ A := by
  refine ⟨fun w hw => listIn_step ?_⟩
  have hw' : Region.wanted ⟨some d, .call ⟨.value x, #[y], tys⟩, T, pos, af, some (g, b)⟩ (yielded ops (act n ρ).tmps) = true := by
    simp only [Region.wanted, act, yielded_arr, hg, beq_self_eq_true]
  rw [if_pos hw']
  refine ⟨fun _ _ => trivial, ?_⟩
  obtain ⟨fn, tmps, assign, body, hr, hR⟩ := hY w hw
  have : (Oper.semAt Fence.wide.round (act n ρ).eval ⟨some d, .call ⟨.value x, #[y], tys⟩, T, pos, af, some (g, b)⟩).run P w = .ok (.round l fn tmps assign body) w := by
    rw [show Fence.wide.round = none from rfl, Oper.semAt_none, eval_act]
    exact run_yv hx hy hr
  rw [this, Oper.uponIn_round]
  refine ⟨fun h0 => by simp [Fence.wide] at h0, hR.mono ?_⟩
  rintro e w' ⟨rfl, hO⟩
  simp only [put_act]
  exact h.run w' hO
end

/-! ### The statement -/
def lp (D l : Nat) (r : Loop) : HProp := star (pt D (.deferred (some []))) (pt l (.loop r))
theorem Own.putObj {w0 w : World} {b : Nat} {o o' : Obj} {R : List HProp} (H : Own w0 (pt b o :: R) w) : Own w0 (pt b o' :: R) (w.putObj b o') :=
  H.turn rfl rfl rfl World.putObj_size (World.putObj_heap_same (Array.getElem?_eq_some_iff.1 H.heap.1).1) (fun k hk => World.putObj_heap_other hk)
def mark (D : Nat) : List Deferred := [{ target := .collected D, args := #[] }]
/-- what is asked behind a round's body -/
def roundQ (w0 : World) (A : List HProp) : Exit → Act → World → Prop
  | .normal, _, w => Own w0 A w
  | _, _, _ => False
theorem WX.round {w0 : World} {n : Nat} {ρ : Env} {A A' : List HProp} {ds : List Deferred} (h : ∀ w, Own w0 A w → Own w0 A' w) : WX w0 n (behind ds (roundQ w0 A')) .normal ρ A := ⟨fun w hw => h w hw⟩
/-- what is asked behind the assignment to the loop's variable -/
def asgQ (P : Program) (w0 : World) (n l : Nat) (body : Code) (A A1 A2 : List HProp) : Exit → Act → World → Prop
  | .normal, a, w => ∃ ρ', a = ⟨arr n ρ', []⟩ ∧ Own w0 A w ∧ WG P w0 (some l) [] n body (roundQ w0 A2) ρ' A1
  | _, _, _ => False
section
variable {P : Program} {w0 : World} {n : Nat} {Q : Exit → Act → World → Prop} {ρ : Env} {A A1 A2 : List HProp}
theorem WX.asg {l : Nat} {body : Code} (h : WG P w0 (some l) [] n body (roundQ w0 A2) ρ A1) : WX w0 n (behind [] (asgQ P w0 n l body A A1 A2)) .normal ρ A := ⟨fun w hw => ⟨ρ, by simp [act], hw, h⟩⟩
theorem arr_zip (p : Nat) (v : Value) : (((#[p] : Array Tmp).zip (#[v] : Array Value)).foldl (fun t (x : Tmp × Value) => t.setIfInBounds x.1 x.2) (arr n ρ)) = arr n (set ρ p v) := by
  rw [← arr_set]; simp
theorem lp_head {w : World} {D l : Nat} {r : Loop} {pre : List HProp} (H : Own w0 (pre ++ lp D l r :: A) w) : Own w0 (pt l (.loop r) :: pt D (.deferred (some [])) :: (pre ++ A)) w := (H.perm List.perm_middle).star.pk1
theorem lp_back {w : World} {D l : Nat} {r : Loop} {pre : List HProp} (H : Own w0 (pt l (.loop r) :: pt D (.deferred (some [])) :: (pre ++ A)) w) : Own w0 (pre ++ lp D l r :: A) w := (H.pk1.intro_star).perm List.perm_middle.symm
def busy (r : Loop) : Loop := { r with state := .busy }
theorem ready_self {r : Loop} (hst : r.state = .ready) (hpe : r.pending = none) : ({ busy r with state := .ready, pending := none } : Loop) = r := by
  obtain ⟨st, pe, fn, tm, ps, as_, bo, df⟩ := r
  simp only at hst hpe
  subst hst; subst hpe
  rfl
/-- one call of yield, out of the body's walk -/
theorem yield_of {D l p : Nat} {r : Loop} {v : Value} {pre pre' : List HProp} (hst : r.state = .ready) (hpe : r.pending = none) (hps : r.params = #[p]) (htm : r.tmps = arr n ρ)
    (hb : WG P w0 (some l) [] n r.assign (asgQ P w0 n l r.body (pre ++ lp D l r :: A) (pre ++ lp D l (busy r) :: A) (pre' ++ lp D l (busy r) :: A)) (set ρ p v) (pre ++ lp D l r :: A)) :
    YieldA P w0 l v (pre ++ lp D l r :: A) (pre' ++ lp D l r :: A) := fun w hw => by
  have hl := (lp_head hw).heap.1
  refine ⟨r.fn, _, r.assign, r.body, run_yield hl (by simp [hps]), ?_⟩
  rw [hps, htm, arr_zip]
  refine roundIn_of_wpIn (F := Fence.wide) trivial ?_
  refine wpIn_mono (hb.run w hw) ?_
  rintro e a w1 hq
  cases e with
  | normal =>
    obtain ⟨ρ', rfl, hO, hB⟩ := hq
    have h1 := lp_head hO
    refine ⟨_, run_beginRound h1.heap.1 hst, ?_⟩
    refine wpIn_mono (hB.run _ (lp_back (h1.putObj (o' := .loop (busy r))))) ?_
    rintro e a w2 hq
    cases e with
    | normal =>
      have h2 := lp_head hq
      have hr := run_endRound (P := P) none h2.heap.1
      refine ⟨_, _, hr, rfl, ?_⟩
      have h3 := h2.putObj (o' := .loop { busy r with state := if (none : Option Code).isNone then .ready else .done, pending := none })
      have e : ({ busy r with state := if (none : Option Code).isNone then .ready else .done, pending := none } : Loop) = r := ready_self hst hpe
      rw [e] at h3 ⊢
      exact lp_back h3
    | ret => exact hq.elim
    | exit i => exact hq.elim
    | goto t => exact hq.elim
    | panic c => exact hq.elim
    | outgrown => exact hq.elim
  | ret => exact hq.elim
  | exit i => exact hq.elim
  | goto t => exact hq.elim
  | panic c => exact hq.elim
  | outgrown => exact hq.elim
/-- for v := range g { body }: no round leaves early -/
theorem WC.rangeF {g : Operand} {gf : FuncId} {bnd : List Value} {p : Nat} {assign body : Code} (pre : Nat → List HProp) (k0 kN : Nat) (S : Nat → Value → Prop) (hc : callT P gf = true) (hg : ev n ρ g = .func (.func gf) bnd.toArray #[]) (hA : ∀ w, Own w0 A w → Own w0 (pre k0 ++ A1) w)
    (hit : ∀ l R, (∀ k v, S k v → YieldA P w0 l v (pre k ++ R) (pre (k + 1) ++ R)) → Fun P w0 gf (bnd ++ [.func (.yield l) #[] #[]]) (pre k0 ++ R) (Ret w0 (fun _ : Unit => True) (fun _ => .tuple #[]) (fun _ => pre kN ++ R)))
    (hb : ∀ l X Y k v, S k v → WG P w0 (some l) [] n assign (asgQ P w0 n l body (pre k ++ X :: A1) (pre k ++ Y :: A1) (pre (k + 1) ++ Y :: A1)) (set ρ p v) (pre k ++ X :: A1))
    (h : ∀ D l r, WX w0 n (behind (mark D) Q) .normal ρ (pre kN ++ lp D l r :: A1)) : WC P w0 n (.rangeFunc g #[p] assign body) Q ρ A := ⟨fun w hw => by
  refine (wpIn_wide (n := 0)).1 (wpIn_rangeFunc fun fn _ => ?_)
  obtain ⟨rec, hrec⟩ : ∃ rec : Loop, rec = { state := .ready, pending := none, fn, tmps := arr n ρ, params := #[p], assign, body, defers := w.heap.size } := ⟨_, rfl⟩
  have hO : Own w0 (pre k0 ++ lp w.heap.size (w.heap.size + 1) rec :: A1) ((w.alloc (.deferred (some []))).alloc (.loop rec)) := by
    have h1 := ((hA w hw).alloc (.deferred (some []))).alloc (.loop rec)
    rw [World.size_alloc] at h1
    exact lp_back h1
  refine ⟨w.heap.size + 1, mark w.heap.size, (w.alloc (.deferred (some []))).alloc (.loop rec), { target := .fn (.func gf) #[], args := bnd.toArray ++ #[.func (.yield (w.heap.size + 1)) #[] #[]] }, (w.alloc (.deferred (some []))).alloc (.loop rec), gf,
    (bnd ++ [Value.func (.yield (w.heap.size + 1)) #[] #[]]).toArray, (w.alloc (.deferred (some []))).alloc (.loop rec), ?_, ?_, fun _ _ => trivial, ?_, fun h0 => by simp [Fence.wide] at h0, ?_⟩
  · rw [hrec]; exact run_enterLoop_outer _ _ _ _ _
  · have he : (act n ρ).eval g = .func (.func gf) bnd.toArray #[] := by rw [eval_act]; exact hg
    simp only [resolve, rangeCall, he]
    simp [go_sem, Deferred.ofValue]
  · simp only [invoke]
    rw [show (bnd.toArray ++ #[Value.func (.yield (w.heap.size + 1)) #[] #[]] ++ #[] : Array Value) = (bnd ++ [Value.func (.yield (w.heap.size + 1)) #[] #[]]).toArray by simp, run_callFunc_of hc]
  · refine callsIn_wide.2 (((hit (w.heap.size + 1) (lp w.heap.size (w.heap.size + 1) rec :: A1) (fun k v hS => ?_)).run _ hO).mono ?_)
    · exact yield_of (p := p) (ρ := ρ) (n := n) (by rw [hrec]) (by rw [hrec]) (by rw [hrec]) (by rw [hrec]) (by
        have e1 : rec.assign = assign := by rw [hrec]
        have e2 : rec.body = body := by rw [hrec]
        rw [e1, e2]
        exact hb _ _ _ k v hS)
    · rintro e w' ⟨_, _, rfl, hO'⟩
      have h1 := lp_head hO'
      refine ⟨_, _, run_endLoop h1.heap.1 (by rw [hrec]; simp), ?_⟩
      have h2 := lp_back (h1.putObj (o' := .loop { rec with state := .exhausted }))
      have e : rec.pending = none := by rw [hrec]
      rw [e] at h2 ⊢
      exact (h _ _ _).run _ h2⟩
end
theorem Own.prefix {w0 w : World} {B : List HProp} : ∀ {A : List HProp}, Own w0 (A ++ B) w → Own w0 A w := fun {A} h => by
  have h1 : Own w0 (B ++ A) w := h.perm List.perm_append_comm
  clear h
  induction B with
  | nil => exact h1
  | cons X B ih => exact ih h1.tail
/-! ### Functions that hold such a loop -/
section
variable {P : Program} {w0 : World} {n : Nat} {ρ : Env} {A : List HProp} {c : Code}
theorem Fun.enterM {f : FuncId} {fn : Func} {args : List Value} {R : Ending → World → Prop} (hf : P.funcs[f]? = some fn) (hb : fn.body = some c) (hn : fn.ntmps = n) (hs : Nat.ble args.length n = true)
    (h : WC P w0 n c (bodyPostM Fence.wide 0 P fn R) (argE args) A) : Fun P w0 f args A R := by
  refine ⟨fun w hw => (callsIn_wide (n := 0)).1 (callsIn_of_wp_marks hf hb trivial (wpIn_wide.2 ?_))⟩
  subst hn
  have := h.run w hw
  rwa [act, ← args_arr args fn.ntmps (by simpa using hs)] at this
variable {ι : Type} {pr : ι → Prop} {val : ι → Value} {post : ι → List HProp} {fn : Func}
theorem WX.ret1M {t : Nat} (hres : fn.results = #[.tmp t]) (i : ι) (hp : pr i) (hv : ev n ρ (.tmp t) = val i) (hA : ∀ w, Own w0 A w → Own w0 (post i) w) : WX w0 n (bodyPostM Fence.wide 0 P fn (Ret w0 pr val post)) .ret ρ A :=
  ⟨fun w hw => by
    have := ((WX.ret1 (P := P) (w0 := w0) (n := n) (ρ := ρ) (A := A) (fn := fn) hres i hp hv hA).run w hw)
    obtain ⟨_, v, hr, hR⟩ := this
    exact ⟨v, hr, hR⟩⟩
theorem WX.ret1G {t D l : Nat} {r : Loop} (hres : fn.results = #[.tmp t]) (i : ι) (hp : pr i) (hv : ev n ρ (.tmp t) = val i) (hA : ∀ w, Own w0 A w → Own w0 (lp D l r :: post i) w) : WX w0 n (behind (mark D) (bodyPostM Fence.wide 0 P fn (Ret w0 pr val post))) .ret ρ A :=
  ⟨fun w hw => by
    have h1 := (hA w hw).star
    have hk := h1.heap.1
    have h2 := h1.putObj (o' := .deferred none)
    have h4 := h2.tail.tail
    have := ((WX.ret1 (P := P) (w0 := w0) (n := n) (ρ := ρ) (A := post i) (fn := fn) hres i hp hv (fun _ h => h)).run _ h4)
    obtain ⟨_, v, hr, hR⟩ := this
    exact ⟨by simp, .inl ⟨D, _, rfl, run_takeDeferred hk, v, hr, hR⟩⟩⟩
end

/-! ### More values -/
section
variable {P : Program} {w0 : World} {n : Nat} {ops : Array Oper} {Q : Exit → Act → World → Prop} {ρ : Env} {A R : List HProp} {rest : List Oper} {dd : Option Tmp} {T : TypeId} {pos : String} {af : Array Edge} {g : Option (Nat × Bool)} {x y z : Operand} {t kt et : TypeId} {d : TypeDesc} {m : Nat} {ps ps' : List (Value × Value)} {k v : Value}
/-- a function with its first arguments -/
theorem vfnb {f : FuncId} {cl : List Operand} {vs : List Value} (hv : cl.map (ev n ρ) = vs) : Val P w0 n ρ A ⟨dd, .makeFunc (.func f) cl.toArray #[], T, pos, af, g⟩ (.func (.func f) vs.toArray #[]) := fun w _ => by
  subst hv
  simp [execOp, Instr.makeFunc]
theorem vlenm (ht : P.underlying t = some (.map kt et)) (hx : ev n ρ x = .map (some m)) [hm : MpAt w0 A m d ps] : Val P w0 n ρ A ⟨dd, .call ⟨.builtin .len, #[x], #[t]⟩, T, pos, af, g⟩ (.int .i64 ps.length) := fun w hw => by
  obtain ⟨es, clk, ⟨h1, _, _⟩, hb⟩ := hm.mp w hw
  have hl : ps.length = es.size := by rw [← h1]; simp
  simp [execOp, resolve, invoke, builtin, Builtin.len_, run_underlying ht, hx, goInt, MapKept.run_getObj_map hb, Result.andThen, hl]
theorem ins (ht : P.underlying t = some (.map kt et)) (hd : P.underlying kt = some d) (hx : ev n ρ x = .map (some m)) (hy : ev n ρ y = k) (hz : ev n ρ z = v) (hk : IsKey d k) (hj : PutE ps k v ps')
    (h : WL P w0 n ops Q rest ρ (mp d m ps' :: R)) : WL P w0 n ops Q (⟨none, .insert t x y z, T, pos, af, none⟩ :: rest) ρ (mp d m ps :: R) :=
  ⟨fun w hw => (mpu (T := T) (pos := pos) (af := af) ht hd hx hy hz hk hj h).run w hw⟩
end
section
variable {P : Program} {w0 : World} {n : Nat} {ops : Array Oper} {Q : Exit → Act → World → Prop} {ρ : Env} {A : List HProp} {rest : List Oper} {d : Nat} {op : Op} {T : TypeId} {pos : String} {af : Array Edge}
theorem WLI.svs {p : Prop} [Decidable p] (hv : Val P w0 n ρ A ⟨some d, op, T, pos, af, none⟩ (.bool (decide p))) (ht : p → WLI P w0 n ops Q rest (set ρ d (.bool true)) A) (hf : ¬ p → WLI P w0 n ops Q rest (set ρ d (.bool false)) A) :
    WLI P w0 n ops Q (⟨some d, op, T, pos, af, none⟩ :: rest) ρ A := by
  by_cases h : p
  · exact WLI.sv hv (by simpa [h] using ht h)
  · exact WLI.sv hv (by simpa [h] using hf h)
end

section
variable {P : Program} {w0 : World} {n : Nat} {ρ : Env} {A : List HProp} {dd : Option Tmp} {T t e : TypeId} {pos : String} {af : Array Edge} {g : Option (Nat × Bool)} {x : Operand} {b s : Nat} {vs : List Value}
/-- a load of a whole struct that is borne -/
theorem vldac (ht : aggT P t = true) (hs : sizeT P t s = true) (hx : ev n ρ x = .pointer (some ⟨b, 0, none⟩)) [hc : CelAt A b vs e] (hl : vs.length = s) (h0 : 0 < s) : Val P w0 n ρ A ⟨dd, .load t x, T, pos, af, g⟩ (.agg vs.toArray) :=
  vlda (base := some ⟨b, 0, none⟩) (j := 0) (vs := vs) ht hs (by rw [hx]; rfl) (RdC.of_cel 0 hc.mem (by simp)) (by rw [List.drop_zero, ← hl, List.take_length]) hl h0
variable {ι : Type} {pr : ι → Prop} {val : ι → Value} {post : ι → List HProp} {fn : Func}
/-- a result that stands in a block -/
theorem WX.ret1c {u : Nat} (hres : fn.results = #[.cell u t]) (ht : aggT P t = true) (hs : sizeT P t s = true) (i : ι) (hp : pr i) (hx : ev n ρ (.tmp u) = .pointer (some ⟨b, 0, none⟩)) [hc : CelAt A b vs e] (hl : vs.length = s) (h0 : 0 < s) (hv : Value.agg vs.toArray = val i) (hA : ∀ w, Own w0 A w → Own w0 (post i) w) : WX w0 n (bodyPost P fn (Ret w0 pr val post)) .ret ρ A :=
  ⟨fun w hw => by
    have h1 := vldac (P := P) (w0 := w0) (dd := none) (T := t) (pos := "") (af := #[]) (g := none) ht hs hx hl h0 w hw
    have hr : (results fn (arr n ρ)).run P w = .ok (.agg vs.toArray) w := by
      have e1 : (arr n ρ).getD u undef = .pointer (some ⟨b, 0, none⟩) := by rw [← hx, ← arr_getD]
      have h2 : (loadVar t ⟨b, 0, none⟩).run P w = .ok (.agg vs.toArray) w := by
        simp only [execOp, hx, Instr.loadAt, Instr.sureAddr] at h1
        cases hl2 : (loadVar t ⟨b, 0, none⟩).run P w with
        | ok v w' => simp [Sem.run_bind, hl2, Result.andThen] at h1; rw [h1.1, h1.2]
        | halt o w' => simp [Sem.run_bind, hl2, Result.andThen] at h1
      have e2 : (arr n ρ)[u]?.getD undef = .pointer (some ⟨b, 0, none⟩) := by rw [← Array.getD_eq_getD_getElem?]; exact e1
      simp only [results, hres]
      simp [e2, asAddr, Sem.run_bind, h2, Result.andThen]
    exact bodyPost_ret hr rfl ⟨i, hp, by rw [← hv], hA w hw⟩⟩
end

section
variable {P : Program} {w0 : World} {n : Nat} {ops : Array Oper} {Q : Exit → Act → World → Prop} {ρ : Env} {A : List HProp} {rest : List Oper} {dd : Option Tmp} {d : Nat} {T t t2 e : TypeId} {pos : String} {af : Array Edge} {g : Option (Nat × Bool)} {x y : Operand} {base : Option Addr} {l c s by_ : Nat} {z : Value}
/-- a slice against nil -/
theorem vsnl (ht : P.underlying t = some (.slice e)) (hx : ev n ρ x = .slice base l c) (hy : ev n ρ y = .slice none 0 0) : Val P w0 n ρ A ⟨dd, .binOp .eql t x y t2, T, pos, af, g⟩ (.bool base.isNone) := fun w _ => by
  simp [execOp, hx, hy, eqGuard_at_slice, binOp, run_equal_slice_nil w t e base l c ht]
/-- a slice literal of nothing -/
theorem bslz (ht : P.underlying t = some (.slice e)) (hz : zeroT P e z s by_)
    (h : ∀ g, WL P w0 n ops Q rest (set ρ d (.slice (some ⟨g, 0, none⟩) 0 0)) (row (some ⟨g, 0, none⟩) 0 s e [] :: A)) :
    WL P w0 n ops Q (⟨some d, .buildSlice t 0 #[], T, pos, af, none⟩ :: rest) ρ A :=
  WL.step rfl fun w hw => by
    obtain ⟨i, hi, hz, hs, _⟩ := hz
    have hO : Own w0 (row (some ⟨w.heap.size, 0, none⟩) 0 s e [] :: A) (w.alloc (.cells #[] e)) := (Own.intro_cel (vs := []) (fz := (0, 0)) (NF.zero _) (by simpa using hw.alloc (.cells #[] e))).cel_row (by simp) (by simp [maxLen])
    refine ⟨.value (.slice (some ⟨w.heap.size, 0, none⟩) 0 0), _, _, _, ?_, put_act .., hO, h _⟩
    simp [execOp, Instr.buildSlice, run_underlying ht, sizeOf, typeInfo, hi, hs, Result.andThen, Instr.fill, newRow, Array.range_zero']
end

section
variable {P : Program} {w0 w : World} {n : Nat} {r : Option Nat} {ds : List Deferred} {Q : Exit → Act → World → Prop} {ρ : Env} {A : List HProp} {c : Code} {ee : Exit}
theorem WG.ex {ι : Type} {B : ι → List HProp} {q : ι → Prop} (hA : ∀ w, Own w0 A w → ∃ i, q i ∧ Own w0 (B i) w) (h : ∀ i, q i → WG P w0 r ds n c Q ρ (B i)) : WG P w0 r ds n c Q ρ A := ⟨fun w hw => by
  obtain ⟨i, hi, hO⟩ := hA w hw
  exact (h i hi).run w hO⟩
theorem WX.exi {ι : Type} {B : ι → List HProp} {q : ι → Prop} (hA : ∀ w, Own w0 A w → ∃ i, q i ∧ Own w0 (B i) w) (h : ∀ i, q i → WX w0 n Q ee ρ (B i)) : WX w0 n Q ee ρ A := ⟨fun w hw => by
  obtain ⟨i, hi, hO⟩ := hA w hw
  exact (h i hi).run w hO⟩
theorem Own.pk7 {A B C D E F G H : HProp} {R : List HProp} (h : Own w0 (A :: B :: C :: D :: E :: F :: G :: H :: R) w) : Own w0 (H :: A :: B :: C :: D :: E :: F :: G :: R) w := h.perm (perm_pk [A, B, C, D, E, F, G] H R)
theorem Own.pk8 {A B C D E F G H I : HProp} {R : List HProp} (h : Own w0 (A :: B :: C :: D :: E :: F :: G :: H :: I :: R) w) : Own w0 (I :: A :: B :: C :: D :: E :: F :: G :: H :: R) w := h.perm (perm_pk [A, B, C, D, E, F, G, H] I R)
theorem Own.pk9 {A B C D E F G H I J : HProp} {R : List HProp} (h : Own w0 (A :: B :: C :: D :: E :: F :: G :: H :: I :: J :: R) w) : Own w0 (J :: A :: B :: C :: D :: E :: F :: G :: H :: I :: R) w := h.perm (perm_pk [A, B, C, D, E, F, G, H, I] J R)
end
end Go.Sl
end
section
set_option linter.unusedVariables false
set_option linter.unusedSimpArgs false
namespace Go.Sl
open Go.RowKit
open Go.MapKept

/-! ### Picked -/
/-- X stands in A; the rest is R. -/
inductive Tk : List HProp → HProp → List HProp → Prop
  | here {X : HProp} {R : List HProp} : Tk (X :: R) X R
  | there {X Y : HProp} {R R' : List HProp} (h : Tk R X R') : Tk (Y :: R) X (Y :: R')
/-- What stands in A bears B. -/
inductive Sb : List HProp → List HProp → Prop
  | all {A : List HProp} : Sb A A
  | nil {A : List HProp} : Sb A []
  | cons {A R l : List HProp} {X : HProp} (h : Tk A X R) (k : Sb R l) : Sb A (X :: l)
  | drop {Y : HProp} {A l : List HProp} (h : Sb A l) : Sb (Y :: A) l
/-- These stand in A; the rest is R. -/
inductive Spl : List HProp → List HProp → List HProp → Prop
  | nil {A : List HProp} : Spl A [] A
  | cons {A R R' l : List HProp} {X : HProp} (h : Tk A X R) (k : Spl R l R') : Spl A (X :: l) R'
theorem Tk.perm {A R : List HProp} {X : HProp} (h : Tk A X R) : A.Perm (X :: R) := by
  induction h with
  | here => exact .refl _
  | there h ih => exact (ih.cons _).trans (.swap _ _ _)
theorem Spl.perm {A l R : List HProp} (h : Spl A l R) : A.Perm (l ++ R) := by
  induction h with
  | nil => exact .refl _
  | cons h k ih => exact h.perm.trans (ih.cons _)
theorem Sb.ownC {w0 w : World} {A B : List HProp} (h : Sb A B) : ∀ C, Own w0 (C ++ A) w → Own w0 (C ++ B) w := by
  induction h with
  | all => exact fun _ H => H
  | nil => exact fun C H => by rw [List.append_nil]; exact H.prefix
  | @cons A R l X h k ih =>
    intro C H
    have h1 := ih (C ++ [X]) (by rw [List.append_assoc]; exact H.perm (List.Perm.append_left C h.perm))
    rwa [List.append_assoc] at h1
  | drop h ih => exact fun C H => ih C (H.perm List.perm_middle).tail
theorem Sb.own {w0 w : World} {A B : List HProp} (h : Sb A B) (H : Own w0 A w) : Own w0 B w := h.ownC [] H
section
variable {w0 w : World} {A R : List HProp} {X1 X2 X3 X4 X5 X6 : HProp}
theorem Own.sp1 (h : Spl A [X1] R) (H : Own w0 A w) : Own w0 (X1 :: R) w := H.perm h.perm
theorem Own.sp2 (h : Spl A [X1, X2] R) (H : Own w0 A w) : Own w0 (X1 :: X2 :: R) w := H.perm h.perm
theorem Own.sp3 (h : Spl A [X1, X2, X3] R) (H : Own w0 A w) : Own w0 (X1 :: X2 :: X3 :: R) w := H.perm h.perm
theorem Own.sp4 (h : Spl A [X1, X2, X3, X4] R) (H : Own w0 A w) : Own w0 (X1 :: X2 :: X3 :: X4 :: R) w := H.perm h.perm
theorem Own.sp5 (h : Spl A [X1, X2, X3, X4, X5] R) (H : Own w0 A w) : Own w0 (X1 :: X2 :: X3 :: X4 :: X5 :: R) w := H.perm h.perm
theorem Own.sp6 (h : Spl A [X1, X2, X3, X4, X5, X6] R) (H : Own w0 A w) : Own w0 (X1 :: X2 :: X3 :: X4 :: X5 :: X6 :: R) w := H.perm h.perm
end
/-- Block b's chunk stands in A; F builds what A is when it holds something else. -/
class CelUp (A : List HProp) (b : Nat) (vs : outParam (List Value)) (e : outParam TypeId) (F : outParam (List Value → List HProp)) : Prop where
  up : ∃ R, A.Perm (cel b vs e :: R) ∧ ∀ us, (cel b us e :: R).Perm (F us)
instance (priority := low) CelUp.tail {X : HProp} {A : List HProp} {b : Nat} {vs : List Value} {e : TypeId} {F : List Value → List HProp} [h : CelUp A b vs e F] : CelUp (X :: A) b vs e (fun us => X :: F us) := ⟨by
  obtain ⟨R, h1, h2⟩ := h.up
  exact ⟨X :: R, (h1.cons _).trans (.swap _ _ _), fun us => (List.Perm.swap _ _ _).trans ((h2 us).cons _)⟩⟩
instance CelUp.head {A : List HProp} {b : Nat} {vs : List Value} {e : TypeId} : CelUp (cel b vs e :: A) b vs e (fun us => cel b us e :: A) := ⟨A, .refl _, fun _ => .refl _⟩
class RowUp (A : List HProp) (base : Option Addr) (c s : outParam Nat) (e : outParam TypeId) (vs : outParam (List Value)) (F : outParam (Option Addr → Nat → List Value → List HProp)) : Prop where
  up : ∃ R, A.Perm (row base c s e vs :: R) ∧ ∀ b2 c2 us, (row b2 c2 s e us :: R).Perm (F b2 c2 us)
instance (priority := low) RowUp.tail {X : HProp} {A : List HProp} {base : Option Addr} {c s : Nat} {e : TypeId} {vs : List Value} {F : Option Addr → Nat → List Value → List HProp} [h : RowUp A base c s e vs F] : RowUp (X :: A) base c s e vs (fun b2 c2 us => X :: F b2 c2 us) := ⟨by
  obtain ⟨R, h1, h2⟩ := h.up
  exact ⟨X :: R, (h1.cons _).trans (.swap _ _ _), fun b2 c2 us => (List.Perm.swap _ _ _).trans ((h2 b2 c2 us).cons _)⟩⟩
instance RowUp.head {A : List HProp} {base : Option Addr} {c s : Nat} {e : TypeId} {vs : List Value} : RowUp (row base c s e vs :: A) base c s e vs (fun b2 c2 us => row b2 c2 s e us :: A) := ⟨A, .refl _, fun _ _ _ => .refl _⟩
class MpUp (A : List HProp) (m : Nat) (d : outParam TypeDesc) (ps : outParam (List (Value × Value))) (F : outParam (List (Value × Value) → List HProp)) : Prop where
  up : ∃ R, A.Perm (mp d m ps :: R) ∧ ∀ us, (mp d m us :: R).Perm (F us)
instance (priority := low) MpUp.tail {X : HProp} {A : List HProp} {m : Nat} {d : TypeDesc} {ps : List (Value × Value)} {F : List (Value × Value) → List HProp} [h : MpUp A m d ps F] : MpUp (X :: A) m d ps (fun us => X :: F us) := ⟨by
  obtain ⟨R, h1, h2⟩ := h.up
  exact ⟨X :: R, (h1.cons _).trans (.swap _ _ _), fun us => (List.Perm.swap _ _ _).trans ((h2 us).cons _)⟩⟩
instance MpUp.head {A : List HProp} {m : Nat} {d : TypeDesc} {ps : List (Value × Value)} : MpUp (mp d m ps :: A) m d ps (fun us => mp d m us :: A) := ⟨A, .refl _, fun _ => .refl _⟩
/-- Of this class: C. -/
class GoodC (Good : (World → Prop) → Prop) (C : World → Prop) : Prop where
  good : Good C
class Cov (A R : List HProp) : Prop where
  cov : ∃ g, A.Perm (g ++ R)
instance Cov.same {A : List HProp} : Cov A A := ⟨[], .refl _⟩
instance (priority := low) Cov.drop {X : HProp} {A R : List HProp} [h : Cov A R] : Cov (X :: A) R := ⟨let ⟨g, hg⟩ := h.cov; ⟨X :: g, hg.cons _⟩⟩
instance (priority := low) Cov.keep {X : HProp} {A R : List HProp} [h : Cov A R] : Cov (X :: A) (X :: R) := ⟨let ⟨g, hg⟩ := h.cov; ⟨g, (hg.cons _).trans List.perm_middle.symm⟩⟩
instance (priority := low) Cov.app {G A R : List HProp} [h : Cov A R] : Cov (G ++ A) R := ⟨let ⟨g, hg⟩ := h.cov; ⟨G ++ g, by rw [List.append_assoc]; exact List.Perm.append_left G hg⟩⟩
instance GoodC.top {C : World → Prop} : GoodC (fun _ => True) C := ⟨trivial⟩
instance GoodC.frame {w0 : World} {A R : List HProp} [h : Cov A R] : GoodC (GoodF w0 (fun g => g ++ R)) (Own w0 A) := ⟨let ⟨g, hg⟩ := h.cov; ⟨g, own_perm hg⟩⟩
theorem Spl.cov {A l R : List HProp} (h : Spl A l R) : ∃ g, A.Perm (g ++ R) := ⟨l, h.perm⟩
section
variable {P : Program} {w0 : World} {n : Nat} {ops : Array Oper} {Q : Exit → Act → World → Prop} {ρ : Env} {A A' R : List HProp} {rest : List Oper} {T : TypeId} {pos : String} {af : Array Edge} {x y z : Operand} {t e kt et : TypeId} {vs : List Value} {v k : Value} {b i d : Nat} {dd : Option Tmp} {base : Option Addr} {c s j m : Nat}
/-- a store into a chunk, wherever it stands -/
theorem stp {vs' : List Value} {F : List Value → List HProp} (ht : plainT P t = true) (hs : sizeT P t 1 = true) (hx : ev n ρ x = .pointer (some ⟨b, i, none⟩)) (hv : ev n ρ y = v) (h1 : v.oneCell' = true) [hc : CelUp A b vs e F] [hi : SetNth vs i v vs']
    (h : WL P w0 n ops Q rest ρ (F vs')) : WL P w0 n ops Q (⟨none, .store t x y, T, pos, af, none⟩ :: rest) ρ A := by
  obtain ⟨R, h1', h2⟩ := hc.up
  exact (stc (e := e) ht hs hx hv h1 (h.perm fun _ H => H.perm (h2 vs'))).perm fun _ H => H.perm h1'
/-- a struct or an array stored whole, wherever it stands -/
theorem stAp {old cs : List Value} {F : List Value → List HProp} (hs : sizeT P t s = true) (hx : ev n ρ x = .pointer (some ⟨b, 0, none⟩)) (hv : ev n ρ y = .agg cs.toArray) (hl : cs.length = s) (h1 : ∀ v ∈ cs, v.oneCell' = true) [hc : CelUp A b old e F] (ho : old.length = s)
    (h : WL P w0 n ops Q rest ρ (F cs)) : WL P w0 n ops Q (⟨none, .store t x y, T, pos, af, none⟩ :: rest) ρ A := by
  obtain ⟨R, h1', h2⟩ := hc.up
  exact (stA (old := old) (e := e) hs hx hv hl ho h1 (h.perm fun _ H => H.perm (h2 cs))).perm fun _ H => H.perm h1'
theorem strp {F : Option Addr → Nat → List Value → List HProp} (ht : plainT P t = true) (hs : sizeT P t 1 = true) (hx : ev n ρ x = .pointer (base.map (·.add j))) (hv : ev n ρ y = v) (h1 : v.oneCell' = true) [hc : RowUp A base c s e vs F] (hj : j < vs.length)
    (h : WL P w0 n ops Q rest ρ (F base c (vs.set j v))) : WL P w0 n ops Q (⟨none, .store t x y, T, pos, af, none⟩ :: rest) ρ A := by
  obtain ⟨R, h1', h2⟩ := hc.up
  exact (str (e := e) (c := c) (s := s) ht hs hx hv h1 hj (h.perm fun _ H => H.perm (h2 _ _ _))).perm fun _ H => H.perm h1'
/-- a struct stored into a row, wherever it stands -/
theorem staRp {cs vs' : List Value} {sz : Nat} {F : Option Addr → Nat → List Value → List HProp} (hs : sizeT P t sz = true) (hx : ev n ρ x = .pointer (base.map (·.add j))) (hv : ev n ρ y = .agg cs.toArray) (h1 : cs.all (·.oneCell') = true) (hk : Nat.beq cs.length sz = true) [hc : RowUp A base c s e vs F] (h0 : 0 < sz) (hj : j + cs.length ≤ vs.length) (hset : splice vs j cs = vs')
    (h : WL P w0 n ops Q rest ρ (F base c vs')) : WL P w0 n ops Q (⟨none, .store t x y, T, pos, af, none⟩ :: rest) ρ A := by
  obtain ⟨R, h1', h2⟩ := hc.up
  subst hset
  have hk' := Nat.eq_of_beq_eq_true hk
  refine WL.perm (A' := row base c s e vs :: R) ⟨fun w hw => ?_⟩ (fun _ H => H.perm h1')
  rcases hw.row with ⟨_, rfl, _⟩ | ⟨g, o, cur, rfl, hp, hl, hcm, hO⟩
  · simp only [List.length_nil] at hj; omega
  · obtain ⟨tl, htl⟩ := hp
    have hlc : cur.length - o = vs.length + tl.length := by have := congrArg List.length htl; rw [List.length_append, List.length_drop] at this; omega
    have hfit : o + j + cs.length ≤ cur.length := by have := hl.1; have := hl.2; omega
    have e1 : (splice cur (o + j) cs).drop o = splice vs j cs ++ tl := by
      have e2 : (cur.drop o).take j = vs.take j := by rw [← htl, List.take_append_of_le_length (by omega)]
      have e3 : cur.drop (o + j + cs.length) = vs.drop (j + cs.length) ++ tl := by
        rw [show o + j + cs.length = o + (j + cs.length) by omega, ← List.drop_drop, ← htl, List.drop_append_of_le_length (by omega)]
      unfold splice
      rw [e3, List.append_assoc, List.drop_append_of_le_length (by rw [List.length_take]; omega), List.drop_take, Nat.add_sub_cancel_left, e2]
      simp only [List.append_assoc]
    refine (sta (vs := cur) (off := o + j) (e := e) hs (by rw [hx]; simp only [Option.map_some, add_at]) hv h1 hk (by omega) (pm (fun w hw => ?_) h)).run w hO
    have h3 : Own w0 (row (some ⟨g, o, none⟩) c s e (splice vs j cs) :: R) w := hw.intro_rowo ⟨tl, e1.symm⟩ ⟨by rw [splice_length hj]; exact hl.1, by rw [splice_length (by omega)]; exact hl.2⟩ hcm
    exact h3.perm (h2 _ _ _)
theorem mpup {dk : TypeDesc} {ps ps' : List (Value × Value)} {F : List (Value × Value) → List HProp} (ht : P.underlying t = some (.map kt et)) (hd : P.underlying kt = some dk) (hx : ev n ρ x = .map (some m)) (hy : ev n ρ y = k) (hz : ev n ρ z = v) (hk : IsKey dk k) [hc : MpUp A m dk ps F] (hj : PutE ps k v ps')
    (h : WL P w0 n ops Q rest ρ (F ps')) : WL P w0 n ops Q (⟨none, .mapUpdate t x y z, T, pos, af, none⟩ :: rest) ρ A := by
  obtain ⟨R, h1', h2⟩ := hc.up
  exact (mpu ht hd hx hy hz hk hj (h.perm fun _ H => H.perm (h2 _))).perm fun _ H => H.perm h1'
theorem insp {dk : TypeDesc} {ps ps' : List (Value × Value)} {F : List (Value × Value) → List HProp} (ht : P.underlying t = some (.map kt et)) (hd : P.underlying kt = some dk) (hx : ev n ρ x = .map (some m)) (hy : ev n ρ y = k) (hz : ev n ρ z = v) (hk : IsKey dk k) [hc : MpUp A m dk ps F] (hj : PutE ps k v ps')
    (h : WL P w0 n ops Q rest ρ (F ps')) : WL P w0 n ops Q (⟨none, .insert t x y z, T, pos, af, none⟩ :: rest) ρ A := by
  obtain ⟨R, h1', h2⟩ := hc.up
  exact (ins ht hd hx hy hz hk hj (h.perm fun _ H => H.perm (h2 _))).perm fun _ H => H.perm h1'
theorem vfldp {f off : Nat} {g : Option (Nat × Bool)} (hf : fieldT P t f off = true) (hx : ev n ρ x = .pointer (some ⟨b, i, none⟩)) : Val P w0 n ρ A ⟨dd, .fieldAddr t x f, T, pos, af, g⟩ (.pointer (some ⟨b, i + off, none⟩)) := by
  rw [← add_at]; exact vfld hf hx
theorem vfldpz {f : Nat} {g : Option (Nat × Bool)} (hf : fieldT P t f 0 = true) (hx : ev n ρ x = .pointer (some ⟨b, i, none⟩)) : Val P w0 n ρ A ⟨dd, .fieldAddr t x f, T, pos, af, g⟩ (.pointer (some ⟨b, i, none⟩)) := by
  have := vfld (P := P) (w0 := w0) (A := A) (d := dd) (T := T) (pos := pos) (af := af) (g := g) hf hx
  simpa only [add_at, Nat.add_zero] using this
theorem vixap {kk : IntKind} {ix : Int} {N : Nat} {g : Option (Nat × Bool)} (ht : P.underlying t = some (.array N e)) (hs : sizeT P e 1 = true) (hx : ev n ρ x = .pointer (some ⟨b, i, none⟩)) (hy : ev n ρ y = .int kk ix) (h0 : 0 ≤ ix) (h1 : ix < N) :
    Val P w0 n ρ A ⟨dd, .indexAddr t x y, T, pos, af, g⟩ (.pointer (some ⟨b, i + ix.toNat, none⟩)) := by
  have := vixa (P := P) (w0 := w0) (A := A) (d := dd) (T := T) (pos := pos) (af := af) (g := g) ht hs hx hy h0 h1
  simpa only [add_at, Nat.mul_one] using this
/-- a struct loaded out of the middle of a block -/
theorem vldap {g : Option (Nat × Bool)} {cs : List Value} (ht : aggT P t = true) (hs : sizeT P t s = true) (hx : ev n ρ x = .pointer (some ⟨b, i, none⟩)) [hc : CelAt A b vs e] (hag : (vs.drop i).take s = cs) (hl : cs.length = s) (h0 : 0 < s) : Val P w0 n ρ A ⟨dd, .load t x, T, pos, af, g⟩ (.agg cs.toArray) := by
  have hR : RdC w0 A (some ⟨b, 0, none⟩) vs := RdC.of_cel 0 hc.mem (by simp)
  exact vlda (base := some ⟨b, 0, none⟩) (j := i) ht hs (by rw [hx]; simp only [Option.map_some, add_at, Nat.zero_add]) hR hag hl h0
/-- a store whose place is reckoned -/
theorem stq {vs' : List Value} {F : List Value → List HProp} (ht : plainT P t = true) (hs : sizeT P t 1 = true) (hx : ev n ρ x = .pointer (some ⟨b, i, none⟩)) (hv : ev n ρ y = v) (h1 : v.oneCell' = true) [hc : CelUp A b vs e F] (hi : i < vs.length) (hset : vs.set i v = vs')
    (h : WL P w0 n ops Q rest ρ (F vs')) : WL P w0 n ops Q (⟨none, .store t x y, T, pos, af, none⟩ :: rest) ρ A :=
  have : SetNth vs i v vs' := ⟨hset, hi⟩
  stp ht hs hx hv h1 h
theorem staq {old cs vs' : List Value} {F : List Value → List HProp} (hs : sizeT P t s = true) (hx : ev n ρ x = .pointer (some ⟨b, i, none⟩)) (hv : ev n ρ y = .agg cs.toArray) (h1 : cs.all (·.oneCell') = true) (hk : Nat.beq cs.length s = true) [hc : CelUp A b old e F] (ho : i + cs.length ≤ old.length) (hset : splice old i cs = vs')
    (h : WL P w0 n ops Q rest ρ (F vs')) : WL P w0 n ops Q (⟨none, .store t x y, T, pos, af, none⟩ :: rest) ρ A := by
  obtain ⟨R, h1', h2⟩ := hc.up
  subst hset
  exact (sta (e := e) hs hx hv h1 hk ho (h.perm fun _ H => H.perm (h2 _))).perm fun _ H => H.perm h1'
/-! calls -/
variable {ι : Type} {pr : ι → Prop} {val : ι → Value} {post : ι → List HProp} {f : FuncId} {aops : List Operand} {args cap : List Value} {tys : Array TypeId} {l0 : List Oper} {bs : List Nat × List Nat} {Good : (World → Prop) → Prop}
theorem clx (hA : Sb A A') (hs : Fun P w0 f args A' (Ret w0 pr val post)) (hc : callT P f = true) (ha : evs n ρ aops = args)
    (h : ∀ i, pr i → WL P w0 n ops Q rest (set ρ d (val i)) (post i)) : WL P w0 n ops Q (⟨some d, .call ⟨.value (.func f), aops.toArray, tys⟩, T, pos, af, none⟩ :: rest) ρ A := (cl hs hc ha h).perm fun _ H => hA.own H
theorem clx0 (hA : Sb A A') (hs : Fun P w0 f args A' (Ret w0 pr val post)) (hc : callT P f = true) (ha : evs n ρ aops = args)
    (h : ∀ i, pr i → WL P w0 n ops Q rest ρ (post i)) : WL P w0 n ops Q (⟨none, .call ⟨.value (.func f), aops.toArray, tys⟩, T, pos, af, none⟩ :: rest) ρ A := (cl0 hs hc ha h).perm fun _ H => hA.own H
theorem clvx (hA : Sb A A') (hs : Fun P w0 f (args ++ cap) A' (Ret w0 pr val post)) (hc : callT P f = true) (hx : ev n ρ x = .func (.func f) #[] cap.toArray) (ha : evs n ρ aops = args)
    (h : ∀ i, pr i → WL P w0 n ops Q rest (set ρ d (val i)) (post i)) : WL P w0 n ops Q (⟨some d, .call ⟨.value x, aops.toArray, tys⟩, T, pos, af, none⟩ :: rest) ρ A := (clv hs hc hx ha h).perm fun _ H => hA.own H
theorem clvxz (hA : Sb A A') (hs : Fun P w0 f args A' (Ret w0 pr val post)) (hc : callT P f = true) (hx : ev n ρ x = .func (.func f) #[] #[]) (ha : evs n ρ aops = args)
    (h : ∀ i, pr i → WL P w0 n ops Q rest (set ρ d (val i)) (post i)) : WL P w0 n ops Q (⟨some d, .call ⟨.value x, aops.toArray, tys⟩, T, pos, af, none⟩ :: rest) ρ A := (clv (cap := []) (by rw [List.append_nil]; exact hs) hc hx ha h).perm fun _ H => hA.own H
/-- a quiet call that asks for some of the chunks -/
theorem Fun.sb {R : Ending → World → Prop} (hA : Sb A A') (hs : Fun P w0 f args A' R) : Fun P w0 f args A R := hs.perm fun _ H => hA.own H
theorem Quiet.spl {X R : List HProp} {v : Value} (h : Spl A X R) (hs : Fun P w0 f args (X ++ R) (Ret w0 (fun _ : Unit => True) (fun _ => v) (fun _ => X ++ R))) : Quiet P w0 f args A v :=
  (hs.perm fun _ H => H.perm h.perm).mono fun e w ⟨_, _, he, hO⟩ => ⟨he, hO.perm h.perm.symm⟩
/-! plans whose frames are found -/
theorem WPl.oneE {is : List Nat} {e : Nat} {p : Plan} (hF : ∀ g, GoodC Good (Own w0 (g ++ A)))
    (h : WD P w0 n l0.toArray (fun g => g ++ A) (fun ρ' => wantN n ρ' l0 e = true ∧ WL P w0 n l0.toArray (Br P w0 n l0 bs Q (fun g => g ++ A) p) [nthD l0 e] ρ' A) (pickL l0 is) ρ) : WPl P w0 n l0 bs Q Good (.one is e p) ρ A :=
  WPl.one (fun g => g ++ A) [] (fun g => (hF g).good) rfl h
theorem WPl.oneX {is : List Nat} {e : Nat} {p : Plan} (X : List HProp) {R : List HProp} (hX : Spl A X R) (hF : ∀ g, GoodC Good (Own w0 (g ++ R)))
    (h : WD P w0 n l0.toArray (fun g => g ++ R) (fun ρ' => wantN n ρ' l0 e = true ∧ WL P w0 n l0.toArray (Br P w0 n l0 bs Q (fun g => g ++ R) p) [nthD l0 e] ρ' A) (pickL l0 is) ρ) : WPl P w0 n l0 bs Q Good (.one is e p) ρ A :=
  WPl.one (fun g => g ++ R) X (fun g => (hF g).good) (own_perm hX.perm) h
theorem WPl.barC {is : List Nat} {e : Nat} {p : Plan} [hG : GoodC Good (Own w0 A)]
    (h : WD P w0 n l0.toArray (fun _ => A) (fun ρ' => wantN n ρ' l0 e = true ∧ WL P w0 n l0.toArray (BrT P w0 n l0 bs Q p) [nthD l0 e] ρ' A) (pickL l0 is) ρ) : WPl P w0 n l0 bs Q Good (.bar is e p) ρ A := WPl.bar hG.good h
theorem WPl.finC {is : List Nat} [hG : GoodC Good (Own w0 A)] (h : WD P w0 n l0.toArray (fun _ => A) (fun ρ' => WX w0 n Q .normal ρ' A) (pickL l0 is) ρ) : WPl P w0 n l0 bs Q Good (.done is) ρ A := WPl.fin hG.good h
theorem WPl.preC {is : List Nat} {p : Plan} [hG : GoodC Good (Own w0 A)] (h : WD P w0 n l0.toArray (fun _ => A) (fun ρ' => WPl P w0 n l0 bs Q Good p ρ' A) (pickL l0 is) ρ) : WPl P w0 n l0 bs Q Good (.pre is p) ρ A := WPl.pre hG.good h
end
/-! ### Arrays written out -/
def fillR (size : Nat) : List Value → List (Nat × Value) → Option (List Value)
  | cs, [] => some cs
  | cs, (i, v) :: rest => if v.cells.size ≠ size || i * size + v.cells.size > cs.length then none else fillR size (splice cs (i * size) v.cells.toList) rest
theorem fill_fillR (size : Nat) : ∀ (ps : List (Nat × Value)) (cs : Array Value), Instr.fill (fun i => some (i * size, size)) cs ps = (fillR size cs.toList ps).map List.toArray
  | [], cs => by simp [Instr.fill, fillR]
  | (i, v) :: rest, cs => by
    simp only [Instr.fill, fillR, Array.length_toList]
    split
    · rfl
    · rename_i hne
      have h2 : i * size + v.cells.size ≤ cs.size := by
        simp only [Bool.or_eq_true, decide_eq_true_eq, not_or] at hne; omega
      have := foldl_splice v.cells.toList cs (i * size) 0 (by simpa using h2)
      have e : v.cells.zipIdx.foldl (fun (cs : Array Value) (x : Value × Nat) => cs.setIfInBounds (i * size + x.2) x.1) cs = (splice cs.toList (i * size) v.cells.toList).toArray := by
        rw [← Array.foldl_toList]
        simpa using this
      have e' : (Array.foldl (fun cs x => match x with | (c, j) => cs.setIfInBounds (i * size + j) c) cs v.cells.zipIdx) = (splice cs.toList (i * size) v.cells.toList).toArray := e
      rw [e']
      have ih := fill_fillR size rest (splice cs.toList (i * size) v.cells.toList).toArray
      simpa using ih
theorem vbdR {P : Program} {w0 : World} {n : Nat} {ρ : Env} {A : List HProp} {dd : Option Tmp} {t T e : TypeId} {pos : String} {af : Array Edge} {g : Option (Nat × Bool)} {N sz s by_ : Nat} {zv : Value} {parts : List (Nat × Operand)} {ps : List (Nat × Value)} {cs : List Value} (ht : P.underlying t = some (.array N e)) (hs : sizeT P e sz = true) (hz : zeroT P t zv s by_) (hp : partsL n ρ parts = ps) (hf : fillR sz zv.cells.toList ps = some cs) :
    Val P w0 n ρ A ⟨dd, .build t parts.toArray, T, pos, af, g⟩ (.agg cs.toArray) := fun w _ => by
  obtain ⟨i, h2, h3, _, _⟩ := hz
  have hpl : ∀ l : List (Nat × Operand), l.map (fun p => (p.1, ev n ρ p.2)) = partsL n ρ l := by
    intro l; induction l with
    | nil => rfl
    | cons x l ih => simp [partsL, ih]
  have hp' : (parts.toArray.map fun (i, x) => (i, ev n ρ x)).toList = ps := by rw [← hp, ← hpl]; simp
  simp only [execOp, Instr.build, Sem.run_bind, run_underlying ht, Result.andThen_ok, zeroValue, typeInfo, run_program, h2, Sem.run_pure, h3, run_sizeOf_of hs, hp', fill_fillR, hf, Option.map_some]
theorem WL.known {P : Program} {w0 : World} {n : Nat} {ops : Array Oper} {Q : Exit → Act → World → Prop} {l : List Oper} {ρ : Env} {A : List HProp} {p : Prop} (hp : ∀ w, Own w0 A w → p) (h : p → WL P w0 n ops Q l ρ A) : WL P w0 n ops Q l ρ A := ⟨fun w hw => (h (hp w hw)).run w hw⟩
/-! ### Cuts and loops that leave the chunks -/
section
variable {P : Program} {w0 : World} {n : Nat} {Q : Exit → Act → World → Prop} {ρ : Env} {A : List HProp} {x y c : Code}
theorem WC.cutS (C V : List (Nat × Value)) (h0 : AllC V ρ) (hx : WC P w0 n x (Exit.then (Mid w0 n (fun _ : Unit => C) V (fun _ => A) (fun _ => True)) Q) ρ A) (hy : ∀ ρh, WC P w0 n y Q (setL C (setL V ρh)) A) : WC P w0 n (.seq x y) Q ρ A := WC.cut0 C V A h0 hx hy
theorem WC.cutvS {ι : Type} (C : ι → List (Nat × Value)) (V : List (Nat × Value)) (R : ι → Prop) (h0 : AllC V ρ) (hx : WC P w0 n x (Exit.then (Mid w0 n C V (fun _ => A) R) Q) ρ A) (hy : ∀ i, R i → ∀ ρh, WC P w0 n y Q (setL (C i) (setL V ρh)) A) : WC P w0 n (.seq x y) Q ρ A := WC.cutv C V (fun _ => A) R h0 hx hy
theorem WC.loopS {ι : Type} (C : ι → List (Nat × Value)) (V : List (Nat × Value)) (R : ι → Prop) (μ : ι → Nat) (i0 : ι) (hR : R i0) (hC : AllC (C i0) ρ) (hV : AllC V ρ)
    (round : ∀ i, R i → ∀ ρh, WC P w0 n c (Exit.then (Mid w0 n C V (fun _ => A) (fun j => R j ∧ μ j < μ i)) Q) (setL (C i) (setL V ρh)) A) : WC P w0 n (.loop c) Q ρ A := WC.loop C V (fun _ => A) R μ i0 hR hC hV (fun _ h => h) round
end
end Go.Sl
end
section
set_option linter.unusedVariables false
set_option linter.unusedSimpArgs false
namespace Go.Sl
open Go.RowKit
open Go.ChangeMaps (setBlock)
open Go.MapKept

theorem erase_map {α β : Type} (f : α → β) : ∀ (l : List α) (j : Nat), (l.eraseIdx j).map f = (l.map f).eraseIdx j
  | [], _ => by simp
  | a :: l, 0 => by simp
  | a :: l, j + 1 => by simp [erase_map f l j]
/-- what a map asks of its keys -/
structure KeyK (P : Program) (kt : TypeId) (K : Value → Prop) : Prop where
  check : ∀ (w : World) (em : Bool) {v : Value}, K v → (Instr.checkKey em 10000 kt v).run P w = .ok () w
  find : ∀ (w : World) {x : Value}, K x → ∀ es : List MapEntry, (∀ e ∈ es, K e.key) →
    ((Instr.findKey kt x es).run P w = .ok none w ∧ ∀ e ∈ es, e.key ≠ x) ∨ ∃ (j : Nat) (e : MapEntry), (Instr.findKey kt x es).run P w = .ok (some (j, e.val)) w ∧ es[j]? = some e ∧ e.key = x
  stays : ∀ (w : World) {v : Value}, K v → (Instr.keyThatStays v v).run P w = .ok v w
theorem KeyK.deep {P : Program} {m : Nat} (hm : m + 1 ≤ 10000) {k : TypeId} (hk : P.keyTypeAt m k = true) (ht : P.tiled m k = true) (hw : (match P.underlying k with | some (.array _ _) | some (.struct _) => true | _ => false) = true) : KeyK P k (fun v => ∃ l, keyOf P k v = some l) where
  check := fun w em v ⟨l, h⟩ => (deep_law hm hk ht hw).check w em h
  find := fun w x ⟨l, h⟩ es hes => (deep_law hm hk ht hw).find w h es hes
  stays := fun w v ⟨l, h⟩ => (deep_law hm hk ht hw).stays w h
def mpk (K : Value → Prop) (m : Nat) (ps : List (Value × Value)) : HProp := fun h => ∃ es clk, (es.toList.map (fun e => (e.key, e.val)) = ps ∧ Stamped es clk ∧ ∀ x ∈ es.toList, K x.key) ∧ pt m (.map es clk) h
section
variable {w0 w : World} {A R : List HProp} {K : Value → Prop} {m : Nat} {ps : List (Value × Value)}
theorem Own.mpk (H : Own w0 (Sl.mpk K m ps :: R) w) : ∃ es clk, (es.toList.map (fun e => (e.key, e.val)) = ps ∧ Stamped es clk ∧ ∀ x ∈ es.toList, K x.key) ∧ Own w0 (pt m (.map es clk) :: R) w := by
  obtain ⟨hb, h, ⟨h1, h2, ⟨es, clk, c, a⟩, a2, dd, x⟩, hw⟩ := H
  exact ⟨es, clk, c, hb, h, ⟨h1, h2, a, a2, dd, x⟩, hw⟩
theorem Own.intro_mpk {es : Array MapEntry} {clk : Nat} (hc : es.toList.map (fun e => (e.key, e.val)) = ps ∧ Stamped es clk ∧ ∀ x ∈ es.toList, K x.key) (H : Own w0 (pt m (.map es clk) :: R) w) : Own w0 (Sl.mpk K m ps :: R) w :=
  H.head fun _ h => ⟨es, clk, hc, h⟩
def MpkC (w0 : World) (A : List HProp) (K : Value → Prop) (m : Nat) (ps : List (Value × Value)) : Prop := ∀ w, Own w0 A w → ∃ es clk, (es.toList.map (fun e => (e.key, e.val)) = ps ∧ Stamped es clk ∧ ∀ x ∈ es.toList, K x.key) ∧ w.heap[m]? = some (.map es clk)
class MpkAt (w0 : World) (A : List HProp) (m : Nat) (K : outParam (Value → Prop)) (ps : outParam (List (Value × Value))) : Prop where
  mp : MpkC w0 A K m ps
instance (priority := low) MpkAt.tail {X : HProp} [h : MpkAt w0 A m K ps] : MpkAt w0 (X :: A) m K ps := ⟨fun w hw => h.mp w hw.tail⟩
instance MpkAt.head : MpkAt w0 (Sl.mpk K m ps :: A) m K ps := ⟨fun w hw => by
  obtain ⟨es, clk, hc, hO⟩ := hw.mpk
  exact ⟨es, clk, hc, hO.heap.1⟩⟩
instance (priority := low) MpkAt.app {G : List HProp} [h : MpkAt w0 A m K ps] : MpkAt w0 (G ++ A) m K ps := ⟨by
  induction G with
  | nil => exact h.mp
  | cons X G ih => exact fun w hw => ih w hw.tail⟩
class MpkUp (A : List HProp) (m : Nat) (K : outParam (Value → Prop)) (ps : outParam (List (Value × Value))) (F : outParam (List (Value × Value) → List HProp)) : Prop where
  up : ∃ R, A.Perm (mpk K m ps :: R) ∧ ∀ us, (mpk K m us :: R).Perm (F us)
instance (priority := low) MpkUp.tail {X : HProp} {F : List (Value × Value) → List HProp} [h : MpkUp A m K ps F] : MpkUp (X :: A) m K ps (fun us => X :: F us) := ⟨by
  obtain ⟨R, h1, h2⟩ := h.up
  exact ⟨X :: R, (h1.cons _).trans (.swap _ _ _), fun us => (List.Perm.swap _ _ _).trans ((h2 us).cons _)⟩⟩
instance MpkUp.head : MpkUp (mpk K m ps :: A) m K ps (fun us => mpk K m us :: A) := ⟨A, .refl _, fun _ => .refl _⟩
end
section
variable {P : Program} {w0 : World} {n : Nat} {ops : Array Oper} {Q : Exit → Act → World → Prop} {ρ : Env} {A R : List HProp} {rest : List Oper} {T : TypeId} {pos : String} {af : Array Edge} {x y z : Operand} {t kt et : TypeId} {K : Value → Prop} {m b : Nat} {ps ps' : List (Value × Value)} {k v : Value} {dd : Option Tmp} {g : Option (Nat × Bool)} {okf : Bool}
theorem mkmK {dst : Nat} (K : Value → Prop) (h : ∀ m, WL P w0 n ops Q rest (set ρ dst (.map (some m))) (mpk K m [] :: A)) : WL P w0 n ops Q (⟨some dst, .makeMap t none, T, pos, af, none⟩ :: rest) ρ A :=
  WL.step rfl fun w hw => ⟨.value (.map (some w.heap.size)), w.alloc (.map #[] 0), _, _, by
    simp [execOp, Instr.makeMap, Result.andThen], put_act .., Own.intro_mpk (es := #[]) (clk := 0) ⟨rfl, stamped_empty 0, by simp⟩ (hw.alloc _), h _⟩
theorem vlkK {j : Nat} (ht : P.underlying t = some (.map kt et)) (hK : KeyK P kt K) (hx : ev n ρ x = .map (some m)) (hy : ev n ρ y = k) (hk : K k) [hm : MpkAt w0 A m K ps] (hj : ps[j]? = some (k, v)) : Val P w0 n ρ A ⟨dd, .lookup t x y okf, T, pos, af, g⟩ (if okf then .tuple #[v, .bool true] else v) := fun w hw => by
  obtain ⟨es, clk, ⟨h1, h2, h3⟩, hb⟩ := hm.mp w hw
  have hc := hK.check w es.isEmpty hk
  rcases hK.find w hk es.toList h3 with ⟨_, f2⟩ | ⟨i, e, f1, f2, f3⟩
  · rw [← h1, List.getElem?_map, Option.map_eq_some_iff] at hj
    obtain ⟨e, he, hke⟩ := hj
    exact absurd (congrArg Prod.fst hke) (f2 e (List.mem_of_getElem? he))
  · have hv : e.val = v := by
      rw [← h1, List.getElem?_map, Option.map_eq_some_iff] at hj
      obtain ⟨e', he', hke⟩ := hj
      have hkk : e'.key = e.key := by rw [f3]; exact congrArg Prod.fst hke
      have h4 := same_of h2.2.2 (List.mem_of_getElem? he') (List.mem_of_getElem? f2) hkk
      subst h4
      exact congrArg Prod.snd hke
    cases okf <;> simp [execOp, hx, hy, Instr.lookup, run_underlying ht, MapKept.run_getObj_map hb, hc, f1, Result.andThen, hv]
theorem vlkzK {zv : Value} {s by_ : Nat} (ht : P.underlying t = some (.map kt et)) (hK : KeyK P kt K) (hz : zeroT P et zv s by_) (hx : ev n ρ x = .map (some m)) (hy : ev n ρ y = k) (hk : K k) [hm : MpkAt w0 A m K ps] (hj : ∀ p ∈ ps, p.1 ≠ k) : Val P w0 n ρ A ⟨dd, .lookup t x y okf, T, pos, af, g⟩ (if okf then .tuple #[zv, .bool false] else zv) := fun w hw => by
  obtain ⟨es, clk, ⟨h1, h2, h3⟩, hb⟩ := hm.mp w hw
  obtain ⟨i, z1, z2, _, _⟩ := hz
  have hc := hK.check w es.isEmpty hk
  rcases hK.find w hk es.toList h3 with ⟨f1, f2⟩ | ⟨i, e, f1, f2, f3⟩
  · cases okf <;> simp [execOp, hx, hy, Instr.lookup, run_underlying ht, MapKept.run_getObj_map hb, hc, f1, Result.andThen, zeroValue, typeInfo, z1, z2]
  · exact absurd f3 (hj (e.key, e.val) (by rw [← h1]; exact List.mem_map.2 ⟨e, List.mem_of_getElem? f2, rfl⟩))
/-- whether a key is there, and its value or the zero one -/
inductive GetE (ps : List (Value × Value)) (k zv : Value) : Value → Bool → Prop
  | old (j : Nat) (u : Value) (h : ps[j]? = some (k, u)) : GetE ps k zv u true
  | new (h : ∀ p ∈ ps, p.1 ≠ k) : GetE ps k zv zv false
theorem vlk2K {zv : Value} {s by_ : Nat} {b : Bool} (ht : P.underlying t = some (.map kt et)) (hK : KeyK P kt K) (hz : zeroT P et zv s by_) (hx : ev n ρ x = .map (some m)) (hy : ev n ρ y = k) (hk : K k) [hm : MpkAt w0 A m K ps] (hj : GetE ps k zv v b) : Val P w0 n ρ A ⟨dd, .lookup t x y true, T, pos, af, g⟩ (.tuple #[v, .bool b]) := by
  cases hj with
  | old j u h => exact vlkK (okf := true) ht hK hx hy hk h
  | new h => exact vlkzK (okf := true) ht hK hz hx hy hk h
theorem vlk1K {zv : Value} {s by_ : Nat} {b : Bool} (ht : P.underlying t = some (.map kt et)) (hK : KeyK P kt K) (hz : zeroT P et zv s by_) (hx : ev n ρ x = .map (some m)) (hy : ev n ρ y = k) (hk : K k) [hm : MpkAt w0 A m K ps] (hj : GetE ps k zv v b) : Val P w0 n ρ A ⟨dd, .lookup t x y false, T, pos, af, g⟩ v := by
  cases hj with
  | old j u h => exact vlkK (okf := false) ht hK hx hy hk h
  | new h => exact vlkzK (okf := false) ht hK hz hx hy hk h
/-- a string key, there or not -/
theorem vlk1S {zv : Value} {s by_ : Nat} {b : Bool} {d : TypeDesc} (ht : P.underlying t = some (.map kt et)) (hd : P.underlying kt = some d) (hz : zeroT P et zv s by_) (hx : ev n ρ x = .map (some m)) (hy : ev n ρ y = k) (hk : IsKey d k) [hm : MpAt w0 A m d ps] (hj : GetE ps k zv v b) : Val P w0 n ρ A ⟨dd, .lookup t x y false, T, pos, af, g⟩ v := by
  cases hj with
  | old j u h => exact vlk ht hd hx hy hk h
  | new h => exact vlkz ht hd hz hx hy hk h
theorem mpuK (ht : P.underlying t = some (.map kt et)) (hK : KeyK P kt K) (hx : ev n ρ x = .map (some m)) (hy : ev n ρ y = k) (hz : ev n ρ z = v) (hk : K k) (hj : PutE ps k v ps')
    (h : WL P w0 n ops Q rest ρ (mpk K m ps' :: R)) : WL P w0 n ops Q (⟨none, .mapUpdate t x y z, T, pos, af, none⟩ :: rest) ρ (mpk K m ps :: R) :=
  WL.step rfl fun w hw => by
    obtain ⟨es, clk, ⟨h1, h2, h3⟩, hO⟩ := hw.mpk
    have hb := hO.heap.1
    have hc := hK.check w false hk
    rcases hK.find w hk es.toList h3 with ⟨f1, f2⟩ | ⟨i, e, f1, f2, f3⟩
    · cases hj with
      | old j u hj =>
        rw [← h1, List.getElem?_map, Option.map_eq_some_iff] at hj
        obtain ⟨e, he, hke⟩ := hj
        exact absurd (congrArg Prod.fst hke) (f2 e (List.mem_of_getElem? he))
      | new hj =>
        refine ⟨.skip, _, _, _, by
          simp [execOp, hx, hy, hz, Instr.mapUpdate, run_underlying ht, MapKept.run_getObj_map hb, hc, f1, run_setObj_map _ hb, Result.andThen], rfl,
          Own.intro_mpk (es := es.push { key := k, val := v, born := clk }) (clk := clk + 1) ⟨by simp [h1], stamped_push h2 f2, fun x hx => ?_⟩ (hO.turned (Turned.setBlock hb)), h⟩
        simp only [Array.toList_push, List.mem_append, List.mem_singleton] at hx
        rcases hx with hx | rfl
        · exact h3 x hx
        · exact hk
    · cases hj with
      | new hj => exact absurd f3 (hj (e.key, e.val) (by rw [← h1]; exact List.mem_map.2 ⟨e, List.mem_of_getElem? f2, rfl⟩))
      | old j u hj =>
        have hij : j = i := by
          rw [← h1, List.getElem?_map, Option.map_eq_some_iff] at hj
          obtain ⟨e', he', hke⟩ := hj
          have hkk : e'.key = e.key := by rw [f3]; exact congrArg Prod.fst hke
          have hn := h2.2.2
          have g1 : (es.toList.map (·.key))[j]? = some e'.key := by simp [he']
          have g2 : (es.toList.map (·.key))[i]? = some e'.key := by simp [f2, hkk]
          exact (List.getElem?_inj (by simpa using (List.getElem?_eq_some_iff.1 he').1) hn).1 (g1.trans g2.symm)
        subst hij
        have hi : es[j]? = some e := by simpa using f2
        have hst := hK.stays w hk
        have hkey : ∀ e', es[j]? = some e' → ({ e' with key := k, val := v } : MapEntry).key = e'.key := fun e' he' => by rw [hi] at he'; cases he'; exact f3.symm
        refine ⟨.skip, _, _, _, by
          simp [execOp, hx, hy, hz, Instr.mapUpdate, run_underlying ht, MapKept.run_getObj_map hb, hc, f1, hi, f3, hst, run_setObj_map _ hb, Result.andThen], rfl,
          Own.intro_mpk (es := es.modify j fun e => { e with key := k, val := v }) (clk := clk) ⟨?_, stamped_modify h2 _ _ (fun _ _ => rfl) (fun e' _ he' => hkey e' he'), fun x hx => ?_⟩ (hO.turned (Turned.setBlock hb)), h⟩
        · rw [Array.toList_modify, ← h1]
          apply List.ext_getElem?
          intro q
          simp only [List.getElem?_map, List.getElem?_modify, List.getElem?_set]
          by_cases hq : j = q
          · subst hq
            have hjl : j < es.size := by simpa using (List.getElem?_eq_some_iff.1 f2).1
            simp [f2, hjl]
          · simp [hq]
        · rw [Array.toList_modify] at hx
          obtain ⟨q, hq⟩ := List.mem_iff_getElem?.1 hx
          rw [List.getElem?_modify] at hq
          cases hqe : es.toList[q]? with
          | none => rw [hqe] at hq; simp at hq
          | some e' =>
            rw [hqe] at hq
            by_cases hjq : j = q
            · simp [hjq] at hq; rw [← hq]; exact hk
            · simp [hjq] at hq; rw [← hq]; exact h3 e' (List.mem_of_getElem? hqe)
theorem mpupK {F : List (Value × Value) → List HProp} (ht : P.underlying t = some (.map kt et)) (hK : KeyK P kt K) (hx : ev n ρ x = .map (some m)) (hy : ev n ρ y = k) (hz : ev n ρ z = v) (hk : K k) [hc : MpkUp A m K ps F] (hj : PutE ps k v ps')
    (h : WL P w0 n ops Q rest ρ (F ps')) : WL P w0 n ops Q (⟨none, .mapUpdate t x y z, T, pos, af, none⟩ :: rest) ρ A := by
  obtain ⟨R, h1', h2⟩ := hc.up
  exact (mpuK ht hK hx hy hz hk hj (h.perm fun _ H => H.perm (h2 _))).perm fun _ H => H.perm h1'
end
/-- A map that is ranged over, its iterator, the keys that came up, and the one that came up last if it is still there. -/
def mrk (K : Value → Prop) (m : Nat) (ps : List (Value × Value)) (it : Nat) (vis : List Value) (last : Option Value) : HProp := fun h => ∃ es clk seen, (es.toList.map (fun e => (e.key, e.val)) = ps ∧ Stamped es clk ∧ ∀ x ∈ es.toList, K x.key) ∧
  ((∀ x ∈ es.toList, (seen.contains x.born = true ↔ x.key ∈ vis)) ∧ ∀ k, last = some k → ∃ (e : MapEntry) (seen' : Array Nat), e ∈ es.toList ∧ e.key = k ∧ seen = seen'.push e.born) ∧ star (pt m (.map es clk)) (pt it (.mapIter (some m) clk seen clk)) h
section
variable {w0 w : World} {A R : List HProp} {K : Value → Prop} {m it : Nat} {ps : List (Value × Value)} {vis : List Value} {last : Option Value}
theorem Own.mrk (H : Own w0 (Sl.mrk K m ps it vis last :: R) w) : ∃ es clk seen, (es.toList.map (fun e => (e.key, e.val)) = ps ∧ Stamped es clk ∧ ∀ x ∈ es.toList, K x.key) ∧
    ((∀ x ∈ es.toList, (seen.contains x.born = true ↔ x.key ∈ vis)) ∧ ∀ k, last = some k → ∃ (e : MapEntry) (seen' : Array Nat), e ∈ es.toList ∧ e.key = k ∧ seen = seen'.push e.born) ∧ Own w0 (pt m (.map es clk) :: pt it (.mapIter (some m) clk seen clk) :: R) w := by
  obtain ⟨hb, h, ⟨h1, h2, ⟨es, clk, seen, c, c2, a⟩, a2, dd, x⟩, hw⟩ := H
  exact ⟨es, clk, seen, c, c2, Own.star ⟨hb, h, ⟨h1, h2, a, a2, dd, x⟩, hw⟩⟩
theorem Own.intro_mrk {es : Array MapEntry} {clk : Nat} {seen : Array Nat} (hc : es.toList.map (fun e => (e.key, e.val)) = ps ∧ Stamped es clk ∧ ∀ x ∈ es.toList, K x.key)
    (hs : (∀ x ∈ es.toList, (seen.contains x.born = true ↔ x.key ∈ vis)) ∧ ∀ k, last = some k → ∃ (e : MapEntry) (seen' : Array Nat), e ∈ es.toList ∧ e.key = k ∧ seen = seen'.push e.born)
    (H : Own w0 (pt m (.map es clk) :: pt it (.mapIter (some m) clk seen clk) :: R) w) : Own w0 (Sl.mrk K m ps it vis last :: R) w := H.intro_star.head fun _ h => ⟨es, clk, seen, hc, hs, h⟩
theorem Own.mrk_mpk (H : Own w0 (Sl.mrk K m ps it vis last :: R) w) : Own w0 (Sl.mpk K m ps :: R) w := by
  obtain ⟨es, clk, seen, hc, hs, hO⟩ := H.mrk
  exact Own.intro_mpk hc hO.pk1.tail
/-- keys are given once -/
theorem Own.mpk_nodup (H : Own w0 (Sl.mpk K m ps :: R) w) : (ps.map (·.1)).Nodup ∧ ∀ p ∈ ps, K p.1 := by
  obtain ⟨es, clk, ⟨h1, h2, h3⟩, _⟩ := H.mpk
  refine ⟨?_, fun p hp => ?_⟩
  · rw [← h1, List.map_map]; exact h2.2.2
  · rw [← h1] at hp
    obtain ⟨e, he, rfl⟩ := List.mem_map.1 hp
    exact h3 e he
end
section
variable {P : Program} {w0 : World} {n : Nat} {ops : Array Oper} {Q : Exit → Act → World → Prop} {ρ : Env} {A R : List HProp} {rest : List Oper} {T : TypeId} {pos : String} {af : Array Edge} {x y z : Operand} {t kt et : TypeId} {K : Value → Prop} {m it dst : Nat} {ps : List (Value × Value)} {vis : List Value} {k v : Value} {dd : Option Tmp} {g : Option (Nat × Bool)} {last : Option Value}
/-- range over a map -/
theorem rgmK (ht : P.underlying t = some (.map kt et)) (hx : ev n ρ x = .map (some m)) (h : ∀ it, WL P w0 n ops Q rest (set ρ dst (.pointer (some ⟨it, 0, none⟩))) (mrk K m ps it [] none :: R)) :
    WL P w0 n ops Q (⟨some dst, .range t x, T, pos, af, none⟩ :: rest) ρ (mpk K m ps :: R) :=
  WL.step rfl fun w hw => by
    obtain ⟨es, clk, hc, hO⟩ := hw.mpk
    have hb := hO.heap.1
    refine ⟨.value (.pointer (some ⟨w.heap.size, 0, none⟩)), w.alloc (.mapIter (some m) clk #[] clk), _, _, ?_, put_act .., Own.intro_mrk (seen := #[]) hc ⟨by simp, fun k h => by cases h⟩ (hO.alloc _).pk1, h _⟩
    simp [execOp, hx, Instr.range, run_underlying ht, MapKept.run_getObj_map hb, Result.andThen]
/-- one step of a range -/
theorem nxmK (hx : ev n ρ x = .pointer (some ⟨it, 0, none⟩)) (hmore : ∀ k v, (k, v) ∈ ps → k ∉ vis → WL P w0 n ops Q rest (set ρ dst (.tuple #[.bool true, k, v])) (mrk K m ps it (k :: vis) (some k) :: R))
    (hend : (∀ p ∈ ps, p.1 ∈ vis) → WL P w0 n ops Q rest (set ρ dst (.tuple #[.bool false])) (mrk K m ps it vis last :: R)) :
    WL P w0 n ops Q (⟨some dst, .next x false, T, pos, af, none⟩ :: rest) ρ (mrk K m ps it vis last :: R) :=
  WL.step rfl fun w hw => by
    obtain ⟨es, clk, seen, hc, hs, hO⟩ := hw.mrk
    have hb := hO.heap.1
    have hr := hO.pk1.heap.1
    rcases run_next_at (P := P) w T it m clk clk seen es clk hr hb hc.2.1.1 (Nat.le_refl _) with ⟨h0, hrun⟩ | ⟨e, he, w1, hw1, hrun⟩
    · refine ⟨.value (.tuple #[.bool false]), w, _, _, ?_, put_act .., hw, hend fun p hp => ?_⟩
      · simp only [execOp, hx]
        simp [hrun, Result.andThen]
      · rw [← hc.1] at hp
        obtain ⟨e, he, rfl⟩ := List.mem_map.1 hp
        have hno : leftOf es seen = #[] := Array.eq_empty_of_size_eq_zero h0
        have : e ∉ leftOf es seen := by rw [hno]; simp
        simp only [leftOf, Array.mem_filter, not_and, Bool.not_eq_true'] at this
        have h2 := this (by simpa using he)
        exact (hs.1 e he).1 (by simpa using h2)
    · have hel : e ∈ es.toList ∧ seen.contains e.born = false := by
        simp only [leftOf, Array.toList_filter, List.mem_filter, Bool.not_eq_true'] at he
        exact he
      have hnv : e.key ∉ vis := fun h => by
        have h3 := (hs.1 e hel.1).2 h
        rw [hel.2] at h3
        cases h3
      have hw1' : Own w0 (pt it (.mapIter (some m) clk seen clk) :: pt m (.map es clk) :: R) w1 := by
        rcases hw1 with rfl | rfl
        · exact hO.pk1
        · exact hO.pk1.drew
      have hr1 := hw1'.heap.1
      refine ⟨.value (.tuple #[.bool true, e.key, e.val]), setBlock w1 it (.mapIter (some m) clk (seen.push e.born) clk), _, _, ?_, put_act .., Own.intro_mrk hc ⟨fun y hy => ?_, fun k hk => ?_⟩ (hw1'.turned (Turned.setBlock hr1)).pk1, hmore e.key e.val (by rw [← hc.1]; exact List.mem_map.2 ⟨e, hel.1, rfl⟩) hnv⟩
      · simp only [execOp, hx]
        simp [hrun, Result.andThen]
      · have hbk : y.born = e.born ↔ y.key = e.key := by
          constructor
          · intro h; rw [same_of hc.2.1.2.1 hy hel.1 h]
          · intro h; rw [same_of hc.2.1.2.2 hy hel.1 h]
        simp only [Array.contains_push, Bool.or_eq_true, beq_iff_eq, List.mem_cons, hs.1 y hy, hbk]
        exact or_comm
      · cases hk; exact ⟨e, seen, hel.1, rfl, rfl⟩
/-- the key and the value that came up last -/
theorem venK (hx : ev n ρ x = .pointer (some ⟨it, 0, none⟩)) (hk : (k, v) ∈ ps) : Val P w0 n ρ (mrk K m ps it vis (some k) :: R) ⟨dd, .entry x, T, pos, af, g⟩ (.tuple #[k, v]) := fun w hw => by
  obtain ⟨es, clk, seen, hc, hs, hO⟩ := hw.mrk
  have hb := hO.heap.1
  have hr := hO.pk1.heap.1
  obtain ⟨e, seen', he, hek, hse⟩ := hs.2 k rfl
  subst hse
  have hrun := run_entry_at (P := P) w it m clk seen' es clk e hr hb he hc.2.1.2.1
  have hv : e.val = v := by
    rw [← hc.1] at hk
    obtain ⟨e', he', hke⟩ := List.mem_map.1 hk
    have h1 : e'.key = e.key := by rw [hek]; exact congrArg Prod.fst hke
    have h2 := same_of hc.2.1.2.2 he' he h1
    subst h2
    exact congrArg Prod.snd hke
  simp only [execOp, hx]
  simp [hrun, Result.andThen, hek, hv]
/-- the entry with a key that is there goes -/
theorem delK {j : Nat} (ht : P.underlying t = some (.map kt et)) (hK : KeyK P kt K) (hx : ev n ρ x = .map (some m)) (hy : ev n ρ y = k) (hk : K k) (hj : ps[j]? = some (k, v))
    (h : WL P w0 n ops Q rest ρ (mrk K m (ps.eraseIdx j) it vis none :: R)) :
    WL P w0 n ops Q (⟨none, .call ⟨.builtin .delete, #[x, y], #[t, kt]⟩, T, pos, af, none⟩ :: rest) ρ (mrk K m ps it vis last :: R) :=
  WL.step rfl fun w hw => by
    obtain ⟨es, clk, seen, ⟨h1, h2, h3⟩, hs, hO⟩ := hw.mrk
    have hb := hO.heap.1
    have hc := hK.check w es.isEmpty hk
    have hj' := hj
    rw [← h1, List.getElem?_map, Option.map_eq_some_iff] at hj'
    obtain ⟨e', he', hke⟩ := hj'
    rcases hK.find w hk es.toList h3 with ⟨_, f2⟩ | ⟨i, e, f1, f2, f3⟩
    · exact absurd (congrArg Prod.fst hke) (f2 e' (List.mem_of_getElem? he'))
    · have hij : j = i := by
        have hkk : e'.key = e.key := by rw [f3]; exact congrArg Prod.fst hke
        have hn := h2.2.2
        have g1 : (es.toList.map (·.key))[j]? = some e'.key := by simp [he']
        have g2 : (es.toList.map (·.key))[i]? = some e'.key := by simp [f2, hkk]
        exact (List.getElem?_inj (by simpa using (List.getElem?_eq_some_iff.1 he').1) hn).1 (g1.trans g2.symm)
      subst hij
      have hjl : j < es.size := by simpa using (List.getElem?_eq_some_iff.1 f2).1
      have htl : (es.eraseIdxIfInBounds j).toList = es.toList.eraseIdx j := by
        unfold Array.eraseIdxIfInBounds
        rw [dif_pos hjl, Array.toList_eraseIdx]
      have hsub : (es.toList.eraseIdx j).Sublist es.toList := List.eraseIdx_sublist _ _
      refine ⟨.value (.tuple #[]), _, _, _, by
        simp [execOp, resolve, invoke, builtin, Builtin.delete_, hx, hy, run_underlying ht, MapKept.run_getObj_map hb, hc, f1, run_setObj_map _ hb, Result.andThen], rfl,
        Own.intro_mrk (es := es.eraseIdxIfInBounds j) (clk := clk) (seen := seen) ⟨?_, ?_, ?_⟩ ⟨?_, fun k h => by cases h⟩ (hO.turned (Turned.setBlock hb)), h⟩
      · rw [htl, ← h1, erase_map]
      · unfold Stamped at h2 ⊢
        rw [htl]
        exact ⟨fun x hx => h2.1 x (hsub.subset hx), (hsub.map _).nodup h2.2.1, (hsub.map _).nodup h2.2.2⟩
      · rw [htl]; exact fun x hx => h3 x (hsub.subset hx)
      · rw [htl]; exact fun x hx => hs.1 x (hsub.subset hx)
end
/-! ### Keys that are structs: their letters -/
/-- a struct's fields: type, place, cells -/
def fieldsAre (P : Program) (t : TypeId) (l : List (TypeId × Nat × Nat)) : Bool := match P.underlying t with
  | some (.struct fs) => (fs.toList.map fun f => (f.type, f.offset, P.cellsOf f.type)) == l && fs.all (·.name != "_")
  | _ => false
theorem kl_fields {P : Program} {d : Nat} {t : TypeId} {l : List (TypeId × Nat × Nat)} {cs : List Value} {ls : List (List Lit)} (h : fieldsAre P t l = true) (hc : Nat.beq cs.length (P.cellsOf t) = true) (hm : l.mapM (fun x => P.keyLits d x.1 ((cs.drop x.2.1).take x.2.2)) = some ls) : P.keyLits (d + 1) t cs = some ls.flatten := by
  unfold fieldsAre at h
  cases hu : P.underlying t with
  | none => rw [hu] at h; cases h
  | some k =>
    rw [hu] at h
    cases k <;> try (cases h; done)
    rename_i fs
    simp only [Bool.and_eq_true, beq_iff_eq] at h
    obtain ⟨h1, h2⟩ := h
    have hc' := Nat.eq_of_beq_eq_true hc
    unfold Program.keyLits
    simp only [hu]
    rw [if_pos ⟨hc', h2⟩]
    have e : fs.toList.mapM (fun f => P.keyLits d f.type ((cs.drop f.offset).take (P.cellsOf f.type))) = some ls := by
      rw [← h1, List.mapM_map] at hm
      exact hm
    rw [e]; rfl
theorem kl_int {P : Program} {d : Nat} {t : TypeId} {q : IntKind} {n : Int} (hu : P.underlying t = some (.int q)) (hw : (Lit.int q n).wf = true) : P.keyLits (d + 1) t [.int q n] = some [.int q n] := by
  unfold Program.keyLits
  simp only [hu]
  rw [if_pos ⟨trivial, hw⟩]
theorem kl_str {P : Program} {d : Nat} {t : TypeId} {s : ByteArray} (hu : P.underlying t = some .string) (hs : s.size ≤ maxLen) : P.keyLits (d + 1) t [.string s] = some [.string s.data.toList] := by
  unfold Program.keyLits
  simp only [hu]
  rw [if_pos hs]
theorem keyOf_struct {P : Program} {d : Nat} {t : TypeId} {l : List (TypeId × Nat × Nat)} {cs : List Value} {ls : List (List Lit)} (hk : P.keyType t = true) (h : fieldsAre P t l = true) (hd : P.types.size = d) (hc : Nat.beq cs.length (P.cellsOf t) = true) (hm : l.mapM (fun x => P.keyLits d x.1 ((cs.drop x.2.1).take x.2.2)) = some ls) : ∃ x, keyOf P t (.agg cs.toArray) = some x := by
  have hL := kl_fields (d := d) h hc hm
  unfold fieldsAre at h
  cases hu : P.underlying t with
  | none => rw [hu] at h; cases h
  | some k =>
    rw [hu] at h
    cases k <;> try (cases h; done)
    rename_i fs
    have hc' := Nat.eq_of_beq_eq_true hc
    refine ⟨.string (keyBytes ls.flatten), ?_⟩
    unfold keyOf
    simp only [hu]
    have hf : Value.formed P t (.agg cs.toArray) = true := by
      unfold Value.formed
      simp only [hu]
      simpa using hc'
    rw [hk, hf]
    simp only [Bool.and_self, if_true, Value.cells]
    rw [hd, hL]
    rfl
end Go.Sl
end
section
set_option linter.unusedVariables false
set_option linter.unusedSimpArgs false
namespace Go.Sl
open Go.RowKit
section
variable {P : Program} {w0 : World} {n : Nat} {ops : Array Oper} {Q : Exit → Act → World → Prop} {ρ : Env} {A : List HProp} {rest : List Oper} {T : TypeId} {pos : String} {af : Array Edge}
theorem qclv {k : Nat} {f : FuncId} {x : Operand} {aops : List Operand} {args cap : List Value} {tys : Array TypeId} {v : Value} (hs : Quiet P w0 f (args ++ cap) A v) (hc : callT P f = true) (hx : ev n ρ x = .func (.func f) #[] cap.toArray) (ha : evs n ρ aops = args)
    (h : WQ P w0 n ops Q rest (set ρ k v) A) : WQ P w0 n ops Q (⟨some k, .call ⟨.value x, aops.toArray, tys⟩, T, pos, af, none⟩ :: rest) ρ A := by
  refine ⟨?_⟩
  refine wpQuiet_step fun K hK => ?_
  simp only [Region.wanted, if_true]
  refine ⟨v, fun w hw => ?_, by rw [put_act]; exact hK _ h.run⟩
  unfold Oper.quietAt
  rw [eval_act, run_callv hc hx ha]
  exact ⟨rfl, hs.run w hw⟩
theorem qclvg {k g : Nat} {b : Bool} {f : FuncId} {x : Operand} {aops : List Operand} {args cap : List Value} {tys : Array TypeId} {v : Value} (hg : yieldN n ρ ops g = some b) (hs : Quiet P w0 f (args ++ cap) A v) (hc : callT P f = true) (hx : ev n ρ x = .func (.func f) #[] cap.toArray) (ha : evs n ρ aops = args)
    (h : WQ P w0 n ops Q rest (set ρ k v) A) : WQ P w0 n ops Q (⟨some k, .call ⟨.value x, aops.toArray, tys⟩, T, pos, af, some (g, b)⟩ :: rest) ρ A := by
  refine ⟨?_⟩
  refine wpQuiet_step fun K hK => ?_
  simp only [Region.wanted, act, yielded_arr, hg, beq_self_eq_true, if_true]
  refine ⟨v, fun w hw => ?_, by rw [← act, put_act]; exact hK _ h.run⟩
  unfold Oper.quietAt
  rw [← act, eval_act, run_callv hc hx ha]
  exact ⟨rfl, hs.run w hw⟩
theorem vaN {d : Option Tmp} {g : Option (Nat × Bool)} {x : Operand} (hx : ev n ρ x = .nilFunc) : Val P w0 n ρ A ⟨d, .assign x, T, pos, af, g⟩ .nilFunc := hx ▸ vas
theorem vmN {d : Option Tmp} {g : Option (Nat × Bool)} {x : Operand} (hx : ev n ρ x = .nilFunc) : Val P w0 n ρ A ⟨d, .move x, T, pos, af, g⟩ .nilFunc := hx ▸ vmv
/-- a piece of a string -/
theorem vsslLH {d : Option Tmp} {g : Option (Nat × Bool)} {t : TypeId} {s : ByteArray} {x y z : Operand} {k k' : IntKind} {lo hi : Int} (ht : P.underlying t = some .string) (hx : ev n ρ x = .string s) (hlo : ev n ρ y = .int k lo) (hhi : ev n ρ z = .int k' hi) (h0 : 0 ≤ lo) (h1 : lo ≤ hi) (h2 : hi ≤ s.size) :
    Val P w0 n ρ A ⟨d, .slice t x (some y) (some z) none, T, pos, af, g⟩ (.string (s.extract lo.toNat hi.toNat)) := fun w hw => by
  have h3 : 0 ≤ hi := by omega
  have h4 : lo ≤ (hi.toNat : Int) := by omega
  have h5 : ¬ max hi 0 < lo := by omega
  simp [h5, execOp, hx, hlo, hhi, Instr.sliceAt, run_underlying ht, Instr.slice, Instr.sliceBounds, Instr.sliceBound, asIntOf, h0, h2, h3, h4]
end
/-- a rune as a string -/
theorem vrun {P : Program} {w0 : World} {n : Nat} {ρ : Env} {A : List HProp} {T : TypeId} {pos : String} {af : Array Edge} {d : Option Tmp} {g : Option (Nat × Bool)} {src dst : TypeId} {x : Operand} {k2 : IntKind} {a : Int} (hs : P.underlying src = some (.int .i32)) (hd : P.underlying dst = some .string) (hx : ev n ρ x = .int k2 a) :
    Val P w0 n ρ A ⟨d, .convert src dst x, T, pos, af, g⟩ (.string (Utf8.encode a)) := fun w _ => by
  simp [execOp, hx, convert, run_underlying hs, run_underlying hd, Conv.intToString]
theorem run_eqf_d {P : Program} {t : TypeId} {a : Array TypeId} {b : Array TypeId} {c : Bool} (d : Nat) (ht : P.underlying t = some (.func a b c)) (w : World) : (Op.equalIn (d + 1) t .nilFunc .nilFunc).run P w = .ok true w := by
  simp [Op.equalIn, run_underlying ht]
theorem run_eqf {P : Program} {t : TypeId} {a : Array TypeId} {b : Array TypeId} {c : Bool} (ht : P.underlying t = some (.func a b c)) (w : World) : (Op.equal t .nilFunc .nilFunc).run P w = .ok true w := run_eqf_d 9999 ht w
theorem run_eqfn_d {P : Program} {t : TypeId} {a : Array TypeId} {b : Array TypeId} {c : Bool} (d : Nat) (ht : P.underlying t = some (.func a b c)) (f : Fn) (ts : Array Value) (cs : Array Value) (w : World) : (Op.equalIn (d + 1) t (.func f ts cs) .nilFunc).run P w = .ok false w := by
  simp [Op.equalIn, run_underlying ht]
theorem run_eqfn {P : Program} {t : TypeId} {a : Array TypeId} {b : Array TypeId} {c : Bool} (ht : P.underlying t = some (.func a b c)) (f : Fn) (ts : Array Value) (cs : Array Value) (w : World) : (Op.equal t (.func f ts cs) .nilFunc).run P w = .ok false w := run_eqfn_d 9999 ht f ts cs w
/-- is this function value nil? -/
theorem vfnil {P : Program} {w0 : World} {n : Nat} {ρ : Env} {A : List HProp} {T : TypeId} {pos : String} {af : Array Edge} {d : Option Tmp} {g : Option (Nat × Bool)} {t t2 : TypeId} {x y : Operand} {v : Value} {p : Bool} {a : Array TypeId} {b : Array TypeId} {c : Bool} (ht : P.underlying t = some (.func a b c)) (hx : ev n ρ x = v) (hv : (v = .nilFunc ∧ p = true) ∨ (∃ f ts cs, v = .func f ts cs) ∧ p = false) (hy : ev n ρ y = .nilFunc) :
    Val P w0 n ρ A ⟨d, .binOp .eql t x y t2, T, pos, af, g⟩ (.bool p) := fun w _ => by
  rcases hv with ⟨rfl, rfl⟩ | ⟨⟨f, ts, cs, rfl⟩, rfl⟩
  · simp [execOp, hx, hy, eqGuard, binOp, run_eqf ht]
  · simp [execOp, hx, hy, eqGuard, binOp, run_eqfn ht]
section
variable {P : Program} {w0 : World} {n : Nat} {ρ : Env} {A : List HProp} {T : TypeId} {pos : String} {af : Array Edge} {d : Option Tmp} {g : Option (Nat × Bool)} {t t2 : TypeId} {x y : Operand} {a : Array TypeId} {b : Array TypeId} {c : Bool} {f : Fn} {ts cs : Array Value}
theorem vfnT (ht : P.underlying t = some (.func a b c)) (hx : ev n ρ x = .nilFunc) (hy : ev n ρ y = .nilFunc) : Val P w0 n ρ A ⟨d, .binOp .eql t x y t2, T, pos, af, g⟩ (.bool true) := vfnil ht hx (.inl ⟨rfl, rfl⟩) hy
theorem vfnF (ht : P.underlying t = some (.func a b c)) (hx : ev n ρ x = .func f ts cs) (hy : ev n ρ y = .nilFunc) : Val P w0 n ρ A ⟨d, .binOp .eql t x y t2, T, pos, af, g⟩ (.bool false) := vfnil ht hx (.inr ⟨⟨f, ts, cs, rfl⟩, rfl⟩) hy
end
section
variable {P : Program} {w0 : World} {n : Nat} {Q : Exit → Act → World → Prop} {ρ : Env} {A : List HProp} {l0 : List Oper} {bs : List Nat × List Nat} {Good : (World → Prop) → Prop}
theorem WPl.twoE {is : List Nat} {e1 e2 : Nat} {p1 p2 : Plan} (hF : ∀ g, GoodC Good (Own w0 (g ++ A)))
    (h : WD P w0 n l0.toArray (fun g => g ++ A) (fun ρ' => (wantN n ρ' l0 e1 = true ∧ WL P w0 n l0.toArray (Br P w0 n l0 bs Q (fun g => g ++ A) p1) [nthD l0 e1] ρ' A) ∧ (wantN n ρ' l0 e2 = true ∧ WL P w0 n l0.toArray (Br P w0 n l0 bs Q (fun g => g ++ A) p2) [nthD l0 e2] ρ' A)) (pickL l0 is) ρ) : WPl P w0 n l0 bs Q Good (.two is e1 p1 e2 p2) ρ A :=
  WPl.two (fun g => g ++ A) [] (fun g => (hF g).good) rfl h
end
section
variable {P : Program} {w0 : World} {n : Nat} {ρ : Env} {A : List HProp} {T : TypeId} {pos : String} {af : Array Edge} {d : Option Tmp} {g : Option (Nat × Bool)} {t : TypeId} {s : ByteArray} {x y z : Operand} {k k' : IntKind} {lo hi : Int}
theorem vsslH (ht : P.underlying t = some .string) (hx : ev n ρ x = .string s) (hhi : ev n ρ z = .int k' hi) (h1 : 0 ≤ hi) (h2 : hi ≤ s.size) :
    Val P w0 n ρ A ⟨d, .slice t x none (some z) none, T, pos, af, g⟩ (.string (s.extract 0 hi.toNat)) := fun w hw => by
  have h5 : ¬ max hi 0 < 0 := by omega
  simp [h5, execOp, hx, hhi, Instr.sliceAt, run_underlying ht, Instr.slice, Instr.sliceBounds, Instr.sliceBound, asIntOf, h1, h2]
theorem vsslL (ht : P.underlying t = some .string) (hx : ev n ρ x = .string s) (hlo : ev n ρ y = .int k lo) (h0 : 0 ≤ lo) (h1 : lo ≤ s.size) :
    Val P w0 n ρ A ⟨d, .slice t x (some y) none none, T, pos, af, g⟩ (.string (s.extract lo.toNat s.size)) := fun w hw => by
  have h5 : ¬ max (s.size : Int) 0 < lo := by omega
  simp [h5, execOp, hx, hlo, Instr.sliceAt, run_underlying ht, Instr.slice, Instr.sliceBounds, Instr.sliceBound, asIntOf, h0, h1]
end
/-- only the first of a row's cells are looked at from here on -/
theorem Own.row_take {w0 w : World} {R : List HProp} {base : Option Addr} {c s : Nat} {e : TypeId} {vs : List Value} (j : Nat) (H : Own w0 (Sl.row base c s e vs :: R) w) : Own w0 (Sl.row base c s e (vs.take j) :: R) w := H.head fun h a => by
  rcases a with ⟨r1, r2, r3, r4⟩ | ⟨g, o, cur, r1, r2, r3, r5, r6⟩
  · subst r2; subst r3; exact .inl ⟨r1, by simp, rfl, r4⟩
  · exact .inr ⟨g, o, cur, r1, (List.take_prefix _ _).trans r2, ⟨Nat.le_trans (by rw [List.length_take]; exact Nat.min_le_right _ _) r3.1, r3.2⟩, r5, r6⟩
end Go.Sl
end
section
set_option linter.unusedVariables false
set_option linter.unusedSimpArgs false
namespace Go.Sl
open Go.RowKit Go.Maps Go.Sort Go.Shelf Go.Proofs Go.WideElems

theorem Own.grown {w0 w w' : World} {A : List HProp} (H : Own w0 A w) (hb : Below w.heap.size w w') : Own w0 A w' := by
  obtain ⟨h0, h, a, hw⟩ := H
  refine ⟨h0.trans (hb.mono h0.size), h, a, fun b o ho => ⟨(hw b o ho).1, ?_⟩⟩
  have h2 := (hw b o ho).2
  rw [hb.block b (Array.getElem?_eq_some_iff.1 h2).1]
  exact h2
theorem Own.grown_add {w0 w w' : World} {A : List HProp} (H : Own w0 A w) (hb : Below w.heap.size w w') {g : Nat} {o : Obj} (hg : w.heap.size ≤ g) (ho : w'.heap[g]? = some o) : Own w0 (pt g o :: A) w' := by
  have hl := H.1.size
  obtain ⟨h0, h, a, hw⟩ := H.grown hb
  obtain ⟨_, h1, a1, hw1⟩ := H
  refine ⟨h0, fun b => if b = g then some o else h1 b, ⟨fun b => if b = g then some o else none, h1, fun b => rfl, a1, fun b => ?_, fun b => ?_⟩, fun b o' ho' => ?_⟩
  · by_cases hs : b = g
    · right
      cases hh : h1 b with
      | none => rfl
      | some x =>
        have := (Array.getElem?_eq_some_iff.1 (hw1 b x hh).2).1
        omega
    · left; simp [hs]
  · by_cases hs : b = g
    · have : h1 b = none := by
        cases hh : h1 b with
        | none => rfl
        | some x =>
          have := (Array.getElem?_eq_some_iff.1 (hw1 b x hh).2).1
          omega
      simp [hs]
    · simp [hs]
  · dsimp only at ho'
    split at ho'
    · cases ho'; subst_vars; exact ⟨by omega, ho⟩
    · have h2 := (hw1 b o' ho').2
      refine ⟨(hw1 b o' ho').1, ?_⟩
      rw [hb.block b (Array.getElem?_eq_some_iff.1 h2).1]
      exact h2
/-- a row that a library's contract hands back -/
theorem Own.of_owns {w0 w w' : World} {A : List HProp} (H : Own w0 A w) (hb : Below w.heap.size w w') {e : TypeId} {v : Value} {n : Nat} {xs : List Value} (hr : w'.ownsRow w.heap.size e 1 v n xs) : ∃ i : Option Addr × Nat, n ≤ i.2 ∧ v = .slice i.1 n i.2 ∧ Own w0 (Sl.row i.1 i.2 1 e xs :: A) w' := by
  obtain ⟨h1, hr⟩ := hr
  rcases hr with ⟨rfl, rfl⟩ | ⟨g, cap, cur, rfl, hg, hc, hn, hm, hs, ht⟩
  · have : xs = [] := List.eq_nil_of_length_eq_zero (by omega)
    subst this
    exact ⟨(none, 0), Nat.le_refl _, rfl, (H.grown hb).intro_row_nil⟩
  · refine ⟨(some ⟨g, 0, none⟩, cap), hn, rfl, ?_⟩
    have h2 := H.grown_add hb hg hc
    refine Own.intro_row (s := 1) (cur := cur.toList) ?_ (by simpa using hs) hm (h2.head fun _ h => ?_)
    · rw [← ht]; exact List.take_prefix _ _
    · exact ⟨(0, 0), .inl rfl, h⟩
def anyR (v : Value) : Option (DataW Unit × List MemPlace) := some (.nil, [])
theorem insert_perm {H : Type} (x : Lit × DataW H) : ∀ l, (DataW.insert x l).Perm (x :: l)
  | [] => List.Perm.refl _
  | y :: r => by
    unfold DataW.insert
    split
    · exact List.Perm.refl _
    · exact ((insert_perm x r).cons y).trans (List.Perm.swap x y r)
theorem inserts_perm {H : Type} : ∀ l : List (Lit × DataW H), (l.foldr DataW.insert []).Perm l
  | [] => List.Perm.refl _
  | x :: l => (insert_perm x _).trans ((inserts_perm l).cons x)
def keyB : Value → List UInt8
  | .string s => s.data.toList
  | _ => []
theorem owns_of_mp {P : Program} {w0 w : World} {A : List HProp} {k : TypeId} {m : Nat} {ps : List (Value × Value)} (hk : P.underlying k = some .string) [hm : MpAt w0 A m .string ps] (H : Own w0 A w) (hs : ∀ p ∈ ps, ∃ s : ByteArray, p.1 = .string s ∧ s.size ≤ maxLen) (hl : ps.length ≤ maxLen) :
    ∃ D0 : DataW Unit, w.ownsMap P k anyR m ps.length D0 ∧ Maps.size D0 = ps.length ∧ (strKeys D0).Perm (ps.map fun p => keyB p.1) := by
  obtain ⟨es, clk, ⟨h1, h2, h3⟩, hb⟩ := hm.mp w H
  have hsz : es.toList.length = ps.length := by rw [← h1, List.length_map]
  have hrd : ∀ x ∈ es.toList, WideElems.rd P k anyR x = some (.string (keyB x.key), .nil) := fun x hx => by
    obtain ⟨s, e, hs⟩ := hs (x.key, x.val) (by rw [← h1]; exact List.mem_map.2 ⟨x, hx, rfl⟩)
    dsimp only at e
    unfold WideElems.rd
    simp [keyOf, hk, mapKey, e, hs, anyR, keyB]
  have hmap : es.toList.map (WideElems.rg P k anyR) = es.toList.map fun x => (.string (keyB x.key), .nil) := List.map_congr_left fun x hx => WideElems.rg_of (hrd x hx)
  refine ⟨_, ⟨es, clk, hb, ⟨by rw [← Array.length_toList]; omega, h2, fun x hx => ⟨_, hrd x hx⟩⟩, by rw [← Array.length_toList]; omega, rfl⟩, ?_, ?_⟩
  · rw [Maps.size_eq, (inserts_perm _).length_eq, List.length_map, hsz]
  · show List.Perm (List.map _ _) _
    refine ((inserts_perm _).map _).trans ?_
    rw [hmap, List.map_map, ← h1, List.map_map]
    exact List.Perm.of_eq rfl
end Go.Sl
end
section
set_option maxRecDepth 100000
namespace Go.Proofs.YthljpljbpbkkcaaGreatDoor
open Go.Shelf
def ly_trim_ren : Go.Shelf.Ren := ⟨fun | 160 => 98 | 232 => 113 | 231 => 112 | 227 => 114 | 234 => 116 | 233 => 115 | 236 => 118 | 235 => 117 | 228 => 128 | 271 => 131 | 151 => 130 | 197 => 129 | 120 => 135 | 152 => 134 | 260 => 133 | 137 => 136 | 119 => 137 | 224 => 138 | 225 => 139 | 217 => 140 | 266 => 141 | n => n, fun | 9 => 9 | 4 => 4 | 3 => 3 | 5 => 5 | 117 => 161 | 116 => 160 | 0 => 0 | 124 => 164 | 21 => 21 | 105 => 173 | 46 => 107 | 119 => 179 | 139 => 182 | 138 => 181 | n => n, fun | 3 => 0 | 4 => 1 | n => n⟩
theorem ly_trim : Go.Proofs.Lays.n160 Tryz.prog ly_trim_ren := {
  mixed := by kernel_rfl
  f119 := Tryz.func137.trans (congrArg some (by kernel_rfl))
  f120 := Tryz.func135.trans (congrArg some (by kernel_rfl))
  f137 := Tryz.func136.trans (congrArg some (by kernel_rfl))
  f151 := Tryz.func130.trans (congrArg some (by kernel_rfl))
  f152 := Tryz.func134.trans (congrArg some (by kernel_rfl))
  f160 := Tryz.func98.trans (congrArg some (by kernel_rfl))
  f197 := Tryz.func129.trans (congrArg some (by kernel_rfl))
  f217 := Tryz.func140.trans (congrArg some (by kernel_rfl))
  f224 := Tryz.func138.trans (congrArg some (by kernel_rfl))
  f225 := Tryz.func139.trans (congrArg some (by kernel_rfl))
  f227 := Tryz.func114.trans (congrArg some (by kernel_rfl))
  f228 := Tryz.func128.trans (congrArg some (by kernel_rfl))
  f231 := Tryz.func112.trans (congrArg some (by kernel_rfl))
  f232 := Tryz.func113.trans (congrArg some (by kernel_rfl))
  f233 := Tryz.func115.trans (congrArg some (by kernel_rfl))
  f234 := Tryz.func116.trans (congrArg some (by kernel_rfl))
  f235 := Tryz.func117.trans (congrArg some (by kernel_rfl))
  f236 := Tryz.func118.trans (congrArg some (by kernel_rfl))
  f260 := Tryz.func133.trans (congrArg some (by kernel_rfl))
  f266 := Tryz.func141.trans (congrArg some (by kernel_rfl))
  f271 := Tryz.func131.trans (congrArg some (by kernel_rfl))
  t0 := Tryz.underlying0
  a0 := Tryz.isAgg0
  z0 := Tryz.sizeOf0
  v0 := Tryz.zeroValue0
  t3 := Tryz.underlying3
  a3 := Tryz.isAgg3
  z3 := Tryz.sizeOf3
  v3 := Tryz.zeroValue3
  t4 := Tryz.underlying4
  a4 := Tryz.isAgg4
  z4 := Tryz.sizeOf4
  v4 := Tryz.zeroValue4
  t5 := Tryz.underlying5
  a5 := Tryz.isAgg5
  z5 := Tryz.sizeOf5
  v5 := Tryz.zeroValue5
  t9 := Tryz.underlying9
  a9 := Tryz.isAgg9
  z9 := Tryz.sizeOf9
  v9 := Tryz.zeroValue9
  t21 := Tryz.underlying21
  a21 := Tryz.isAgg21
  z21 := Tryz.sizeOf21
  v21 := Tryz.zeroValue21
  t46 := Tryz.underlying107
  a46 := Tryz.isAgg107
  z46 := Tryz.sizeOf107
  v46 := Tryz.zeroValue107
  t105 := Tryz.underlying173
  a105 := Tryz.isAgg173
  z105 := Tryz.sizeOf173
  v105 := Tryz.zeroValue173
  t116 := Tryz.underlying160
  a116 := Tryz.isAgg160
  z116 := Tryz.sizeOf160
  t117 := Tryz.underlying161
  a117 := Tryz.isAgg161
  z117 := Tryz.sizeOf161
  v117 := Tryz.zeroValue161
  t119 := Tryz.underlying179
  a119 := Tryz.isAgg179
  z119 := Tryz.sizeOf179
  t124 := Tryz.underlying164
  a124 := Tryz.isAgg164
  z124 := Tryz.sizeOf164
  v124 := Tryz.zeroValue164
  t138 := Tryz.underlying181
  a138 := Tryz.isAgg181
  z138 := Tryz.sizeOf181
  v138 := Tryz.zeroValue181
  t139 := Tryz.underlying182
  a139 := Tryz.isAgg182
  z139 := Tryz.sizeOf182
  v139 := Tryz.zeroValue182
  g3 := by kernel_rfl
  g4 := by kernel_rfl }
end Go.Proofs.YthljpljbpbkkcaaGreatDoor
end
section
set_option linter.unusedVariables false
set_option linter.unusedSimpArgs false
namespace Go.Sl
open Go.RowKit

inductive EK
  | int
  | str
  | bool
def ekOf (P : Program) (t : TypeId) : Option EK := match P.underlying t with
  | some (.int _) => some .int
  | some .string => some .str
  | some .bool => some .bool
  | _ => none
def eksL (P : Program) : List Field → Option (List (Nat × EK))
  | [] => some []
  | f :: fs => if f.name == "_" then none else match ekOf P f.type, eksL P fs with
    | some k, some l => some ((f.offset, k) :: l)
    | _, _ => none
def eqT (P : Program) (t : TypeId) : Option (List (Nat × EK)) := match P.underlying t with
  | some (.struct fs) => if P.stoodInHeld t || P.eqGuardType P.depth t then none else eksL P fs.toList
  | _ => none
def eqV (xs ys : List Value) : List (Nat × EK) → Option Bool
  | [] => some true
  | (o, k) :: l => match k, xs[o]?, ys[o]? with
    | .int, some (.int k a), some (.int k' b) => if k = k' then (eqV xs ys l).map (decide (a = b) && ·) else none
    | .str, some (.string a), some (.string b) => (eqV xs ys l).map (decide (a = b) && ·)
    | .bool, some (.bool a), some (.bool b) => (eqV xs ys l).map (decide (a = b) && ·)
    | _, _, _ => none
theorem part_ek {P : Program} {t : TypeId} {k : EK} (h : ekOf P t = some k) {xs : List Value} {o : Nat} {v : Value} (hv : xs[o]? = some v) (w : World) : (part t xs.toArray o).run P w = .ok v w := by
  have hp : plainT P t = true := by
    unfold ekOf at h
    unfold plainT
    cases hu : P.underlying t with
    | none => simp [hu] at h
    | some d => cases d <;> simp [hu] at h ⊢
  simp [part, run_isAgg_of hp, hv]
theorem eqs_of {P : Program} {xs ys : List Value} : ∀ {fs : List Field} {l : List (Nat × EK)} {b : Bool} (w : World), eksL P fs = some l → eqV xs ys l = some b → (Op.eqFields 9999 xs.toArray ys.toArray fs).run P w = .ok b w
  | [], l, b, w, h, hv => by
    simp [eksL] at h; subst h
    simp [eqV] at hv; subst hv
    rfl
  | f :: fs, l, b, w, h, hv => by
    unfold eksL at h
    split at h
    · cases h
    · rename_i hn
      have hn' : f.name ≠ "_" := by simpa using hn
      split at h
      · rename_i k l' hk hl
        cases h
        unfold eqV at hv
        split at hv
        · rename_i o k1 k2 a k3 b' hx hy
          split at hv
          · rename_i hkk
            subst hkk
            obtain ⟨r, hr, rfl⟩ := Option.map_eq_some_iff.1 hv
            have hu : ∃ kk, P.underlying f.type = some (.int kk) := by
              unfold ekOf at hk
              split at hk <;> first | exact ⟨_, by assumption⟩ | cases hk
            obtain ⟨kk, hu⟩ := hu
            have ih := eqs_of (xs := xs) (ys := ys) w hl hr
            have e := run_equalIn_int (P := P) w 9998 f.type k2 kk a b' hu
            simp only [Op.eqFields, if_pos hn', Sem.run_bind, part_ek hk hx, part_ek hk hy, Result.andThen_ok, e]
            by_cases hab : a = b'
            · subst hab
              simp only [beq_self_eq_true, Bool.not_true, Bool.false_eq_true, if_false, decide_true, Bool.true_and]
              exact ih
            · have : (a == b') = false := by simpa using hab
              simp [this, hab]
          · cases hv
        · rename_i o a b' hx hy
          obtain ⟨r, hr, rfl⟩ := Option.map_eq_some_iff.1 hv
          have hu : P.underlying f.type = some .string := by
            unfold ekOf at hk
            split at hk <;> first | assumption | cases hk
          have ih := eqs_of (xs := xs) (ys := ys) w hl hr
          have e := run_equalIn_string (P := P) w 9998 f.type a b' hu
          have hbb : (a.toList == b'.toList) = decide (a = b') := by
            rw [← beq_toListBytes]
            by_cases hab : a = b'
            · subst hab
              rw [decide_eq_true rfl, beq_toListBytes]
              exact beq_self_eq_true _
            · rw [decide_eq_false hab, Bool.eq_false_iff]
              intro he
              rw [beq_toListBytes] at he
              have h1 : a.toList = b'.toList := by simpa using he
              rw [ByteArray.toList_eq, ByteArray.toList_eq] at h1
              exact hab (ByteArray.ext (Array.toList_inj.1 h1))
          rw [hbb] at e
          simp only [Op.eqFields, if_pos hn', Sem.run_bind, part_ek hk hx, part_ek hk hy, Result.andThen_ok, e]
          by_cases hab : a = b'
          · subst hab
            simp only [decide_true, Bool.not_true, Bool.false_eq_true, if_false, Bool.true_and]
            exact ih
          · simp [hab]
        · rename_i o a b' hx hy
          obtain ⟨r, hr, rfl⟩ := Option.map_eq_some_iff.1 hv
          have hu : P.underlying f.type = some .bool := by
            unfold ekOf at hk
            split at hk <;> first | assumption | cases hk
          have ih := eqs_of (xs := xs) (ys := ys) w hl hr
          have e := run_equalIn_bool' (P := P) w 9998 f.type a b' hu
          simp only [Op.eqFields, if_pos hn', Sem.run_bind, part_ek hk hx, part_ek hk hy, Result.andThen_ok, e]
          by_cases hab : a = b'
          · subst hab
            simp only [beq_self_eq_true, Bool.not_true, Bool.false_eq_true, if_false, decide_true, Bool.true_and]
            exact ih
          · have : (a == b') = false := by simpa using hab
            simp [this, hab]
        · cases hv
      · cases h
theorem run_eqT {P : Program} {t : TypeId} {l : List (Nat × EK)} {xs ys : List Value} {b : Bool} (h : eqT P t = some l) (hv : eqV xs ys l = some b) (w : World) : P.eqGuardType P.depth t = false ∧ (Op.equalIn 10000 t (.agg xs.toArray) (.agg ys.toArray)).run P w = .ok b w := by
  unfold eqT at h
  split at h
  · rename_i fs hu
    split at h
    · cases h
    · rename_i hn
      simp only [Bool.or_eq_true, not_or, Bool.not_eq_true] at hn
      have hf : P.fieldsOf t = fs := by simp [Program.fieldsOf, hu]
      refine ⟨hn.2, ?_⟩
      rw [run_equalIn_struct w 9999 t _ _ (by rw [hf]; exact hu) hn.1, hf]
      exact eqs_of w h hv
  · cases h
def fieldV (P : Program) (s f off : Nat) : Bool := match P.underlying s with
  | some (.struct fs) => match fs[f]? with
    | some x => Nat.beq x.offset off && plainT P x.type
    | none => false
  | _ => false
theorem run_fieldV {P : Program} {s f off : Nat} (h : fieldV P s f off = true) {cs : List Value} {v : Value} (hv : cs[off]? = some v) (w : World) : (Instr.field s (.agg cs.toArray) f).run P w = .ok v w := by
  unfold fieldV at h
  split at h
  · rename_i fs hd
    split at h
    · rename_i x hx
      rw [Bool.and_eq_true] at h
      have h1 := Nat.eq_of_beq_eq_true h.1
      subst h1
      have hp : (part x.type cs.toArray x.offset).run P w = .ok v w := by simp [part, run_isAgg_of h.2, hv]
      simp [Instr.field, run_underlying hd, hx, asAgg, hp]
    · cases h
  · cases h
section
variable {P : Program} {w0 : World} {n : Nat} {ρ : Env} {A : List HProp} {dd : Option Tmp} {t t2 T : TypeId} {x y : Operand} {pos : String} {af : Array Edge} {g : Option (Nat × Bool)} {xs ys : List Value} {l : List (Nat × EK)} {b : Bool}
theorem veqA (h : eqT P t = some l) (hx : ev n ρ x = .agg xs.toArray) (hy : ev n ρ y = .agg ys.toArray) (hv : eqV xs ys l = some b) : Val P w0 n ρ A ⟨dd, .binOp .eql t x y t2, T, pos, af, g⟩ (.bool b) := fun w _ => by
  obtain ⟨h1, h2⟩ := run_eqT h hv w
  have h3 := run_eqGuard_agg (P := P) w .eql t x y xs.toArray ys.toArray h1
  simp only [execOp, hx, hy, Sem.run_bind, h3, Result.andThen_ok, run_eql_struct, h2, Sem.run_pure]
theorem vneA (h : eqT P t = some l) (hx : ev n ρ x = .agg xs.toArray) (hy : ev n ρ y = .agg ys.toArray) (hv : eqV xs ys l = some b) : Val P w0 n ρ A ⟨dd, .binOp .neq t x y t2, T, pos, af, g⟩ (.bool (!b)) := fun w _ => by
  obtain ⟨h1, h2⟩ := run_eqT h hv w
  have h3 := run_eqGuard_agg (P := P) w .neq t x y xs.toArray ys.toArray h1
  simp only [execOp, hx, hy, Sem.run_bind, h3, Result.andThen_ok, run_neq_struct, h2, Sem.run_pure]
theorem veqT (h : eqT P t = some l) (hx : ev n ρ x = .agg xs.toArray) (hy : ev n ρ y = .agg ys.toArray) (hv : eqV xs ys l = some true) : Val P w0 n ρ A ⟨dd, .binOp .eql t x y t2, T, pos, af, g⟩ (.bool true) := veqA h hx hy hv
theorem veqF (h : eqT P t = some l) (hx : ev n ρ x = .agg xs.toArray) (hy : ev n ρ y = .agg ys.toArray) (hv : eqV xs ys l = some false) : Val P w0 n ρ A ⟨dd, .binOp .eql t x y t2, T, pos, af, g⟩ (.bool false) := veqA h hx hy hv
theorem vneF (h : eqT P t = some l) (hx : ev n ρ x = .agg xs.toArray) (hy : ev n ρ y = .agg ys.toArray) (hv : eqV xs ys l = some true) : Val P w0 n ρ A ⟨dd, .binOp .neq t x y t2, T, pos, af, g⟩ (.bool false) := vneA h hx hy hv
theorem vneT (h : eqT P t = some l) (hx : ev n ρ x = .agg xs.toArray) (hy : ev n ρ y = .agg ys.toArray) (hv : eqV xs ys l = some false) : Val P w0 n ρ A ⟨dd, .binOp .neq t x y t2, T, pos, af, g⟩ (.bool true) := vneA h hx hy hv
theorem vixar {base : Option Addr} {j : Nat} {kk : IntKind} {ix : Int} {N : Nat} {e : TypeId} {d : Option Tmp} (hb : base.isSome = true) (ht : P.underlying t = some (.array N e)) (hs : sizeT P e 1 = true) (hx : ev n ρ x = .pointer (base.map (·.add j))) (hy : ev n ρ y = .int kk ix) (h0 : 0 ≤ ix) (h1 : ix < N) :
    Val P w0 n ρ A ⟨d, .indexAddr t x y, T, pos, af, g⟩ (.pointer (base.map (·.add (j + ix.toNat)))) := by
  obtain ⟨a, rfl⟩ := Option.isSome_iff_exists.1 hb
  have := vixa (P := P) (w0 := w0) (A := A) (d := d) (T := T) (pos := pos) (af := af) (g := g) ht hs hx hy h0 h1
  rw [add_add', Nat.mul_one] at this
  exact this
/-- a field of a struct at hand -/
theorem vfd {f off : Nat} {cs : List Value} {v : Value} (hf : fieldV P t f off = true) (hx : ev n ρ x = .agg cs.toArray) (hv : cs[off]? = some v) : Val P w0 n ρ A ⟨dd, .field t x f, T, pos, af, g⟩ v := fun w _ => by
  simp [execOp, hx, run_fieldV hf hv]
end
end Go.Sl
end
section
namespace Go.Proofs.YthljpljbpbkkcaaGreatDoor
open Go.Sl
theorem ag46 : Sl.aggT Tryz.prog 46 = true := by kernel_rfl
theorem ag48 : Sl.aggT Tryz.prog 48 = true := by kernel_rfl
theorem ag57 : Sl.aggT Tryz.prog 57 = true := by kernel_rfl
theorem ag117 : Sl.aggT Tryz.prog 117 = true := by kernel_rfl
theorem bt29 : Sl.structT Tryz.prog 29 = some [(0, 1), (1, 1), (2, 1), (3, 1), (4, 1)] := by kernel_rfl
theorem bt46 : Sl.structT Tryz.prog 46 = some [(0, 1), (1, 1)] := by kernel_rfl
theorem bt48 : Sl.structT Tryz.prog 48 = some [(0, 1), (1, 1), (2, 1), (3, 1), (4, 2), (6, 1)] := by kernel_rfl
theorem bt53 : Sl.structT Tryz.prog 53 = some [(0, 1), (1, 1), (2, 1)] := by kernel_rfl
theorem bt57 : Sl.structT Tryz.prog 57 = some [(0, 1), (1, 1), (2, 1), (3, 2), (5, 1)] := by kernel_rfl
theorem bt68 : Sl.structT Tryz.prog 68 = some [(0, 1), (1, 1), (2, 1), (3, 1), (4, 1)] := by kernel_rfl
theorem bt75 : Sl.structT Tryz.prog 75 = some [(0, 1), (1, 1)] := by kernel_rfl
theorem bt79 : Sl.structT Tryz.prog 79 = some [(0, 1), (1, 1), (2, 1)] := by kernel_rfl
theorem bt86 : Sl.structT Tryz.prog 86 = some [(0, 1), (1, 1), (2, 1), (3, 1)] := by kernel_rfl
theorem bt100 : Sl.structT Tryz.prog 100 = some [(0, 1), (1, 1), (2, 1), (3, 1)] := by kernel_rfl
theorem bt112 : Sl.structT Tryz.prog 112 = some [(0, 1), (1, 1), (2, 1), (3, 1)] := by kernel_rfl
theorem bt117 : Sl.structT Tryz.prog 117 = some [(0, 1), (1, 1), (2, 2)] := by kernel_rfl
theorem bt125 : Sl.structT Tryz.prog 125 = some [(0, 1), (1, 1)] := by kernel_rfl
theorem bt138 : Sl.structT Tryz.prog 138 = some [(0, 1), (1, 1)] := by kernel_rfl
theorem ct6 : Sl.callT Tryz.prog 6 = true := by kernel_rfl
theorem ct7 : Sl.callT Tryz.prog 7 = true := by kernel_rfl
theorem ct8 : Sl.callT Tryz.prog 8 = true := by kernel_rfl
theorem ct9 : Sl.callT Tryz.prog 9 = true := by kernel_rfl
theorem ct10 : Sl.callT Tryz.prog 10 = true := by kernel_rfl
theorem ct11 : Sl.callT Tryz.prog 11 = true := by kernel_rfl
theorem ct12 : Sl.callT Tryz.prog 12 = true := by kernel_rfl
theorem ct13 : Sl.callT Tryz.prog 13 = true := by kernel_rfl
theorem ct14 : Sl.callT Tryz.prog 14 = true := by kernel_rfl
theorem ct15 : Sl.callT Tryz.prog 15 = true := by kernel_rfl
theorem ct16 : Sl.callT Tryz.prog 16 = true := by kernel_rfl
theorem ct17 : Sl.callT Tryz.prog 17 = true := by kernel_rfl
theorem ct18 : Sl.callT Tryz.prog 18 = true := by kernel_rfl
theorem ct19 : Sl.callT Tryz.prog 19 = true := by kernel_rfl
theorem ct20 : Sl.callT Tryz.prog 20 = true := by kernel_rfl
theorem ct21 : Sl.callT Tryz.prog 21 = true := by kernel_rfl
theorem ct22 : Sl.callT Tryz.prog 22 = true := by kernel_rfl
theorem ct23 : Sl.callT Tryz.prog 23 = true := by kernel_rfl
theorem ct24 : Sl.callT Tryz.prog 24 = true := by kernel_rfl
theorem ct25 : Sl.callT Tryz.prog 25 = true := by kernel_rfl
theorem ct26 : Sl.callT Tryz.prog 26 = true := by kernel_rfl
theorem ct27 : Sl.callT Tryz.prog 27 = true := by kernel_rfl
theorem ct28 : Sl.callT Tryz.prog 28 = true := by kernel_rfl
theorem ct29 : Sl.callT Tryz.prog 29 = true := by kernel_rfl
theorem ct30 : Sl.callT Tryz.prog 30 = true := by kernel_rfl
theorem ct31 : Sl.callT Tryz.prog 31 = true := by kernel_rfl
theorem ct32 : Sl.callT Tryz.prog 32 = true := by kernel_rfl
theorem ct33 : Sl.callT Tryz.prog 33 = true := by kernel_rfl
theorem ct34 : Sl.callT Tryz.prog 34 = true := by kernel_rfl
theorem ct35 : Sl.callT Tryz.prog 35 = true := by kernel_rfl
theorem ct36 : Sl.callT Tryz.prog 36 = true := by kernel_rfl
theorem ct37 : Sl.callT Tryz.prog 37 = true := by kernel_rfl
theorem ct38 : Sl.callT Tryz.prog 38 = true := by kernel_rfl
theorem ct39 : Sl.callT Tryz.prog 39 = true := by kernel_rfl
theorem ct40 : Sl.callT Tryz.prog 40 = true := by kernel_rfl
theorem ct41 : Sl.callT Tryz.prog 41 = true := by kernel_rfl
theorem ct42 : Sl.callT Tryz.prog 42 = true := by kernel_rfl
theorem ct43 : Sl.callT Tryz.prog 43 = true := by kernel_rfl
theorem ct44 : Sl.callT Tryz.prog 44 = true := by kernel_rfl
theorem ct45 : Sl.callT Tryz.prog 45 = true := by kernel_rfl
theorem ct46 : Sl.callT Tryz.prog 46 = true := by kernel_rfl
theorem ct47 : Sl.callT Tryz.prog 47 = true := by kernel_rfl
theorem ct48 : Sl.callT Tryz.prog 48 = true := by kernel_rfl
theorem ct49 : Sl.callT Tryz.prog 49 = true := by kernel_rfl
theorem ct50 : Sl.callT Tryz.prog 50 = true := by kernel_rfl
theorem ct51 : Sl.callT Tryz.prog 51 = true := by kernel_rfl
theorem ct52 : Sl.callT Tryz.prog 52 = true := by kernel_rfl
theorem ct53 : Sl.callT Tryz.prog 53 = true := by kernel_rfl
theorem ct54 : Sl.callT Tryz.prog 54 = true := by kernel_rfl
theorem ct55 : Sl.callT Tryz.prog 55 = true := by kernel_rfl
theorem ct56 : Sl.callT Tryz.prog 56 = true := by kernel_rfl
theorem ct57 : Sl.callT Tryz.prog 57 = true := by kernel_rfl
theorem ct58 : Sl.callT Tryz.prog 58 = true := by kernel_rfl
theorem ct59 : Sl.callT Tryz.prog 59 = true := by kernel_rfl
theorem ct60 : Sl.callT Tryz.prog 60 = true := by kernel_rfl
theorem ct61 : Sl.callT Tryz.prog 61 = true := by kernel_rfl
theorem ct62 : Sl.callT Tryz.prog 62 = true := by kernel_rfl
theorem ct63 : Sl.callT Tryz.prog 63 = true := by kernel_rfl
theorem ct64 : Sl.callT Tryz.prog 64 = true := by kernel_rfl
theorem ct65 : Sl.callT Tryz.prog 65 = true := by kernel_rfl
theorem ct66 : Sl.callT Tryz.prog 66 = true := by kernel_rfl
theorem ct67 : Sl.callT Tryz.prog 67 = true := by kernel_rfl
theorem ct68 : Sl.callT Tryz.prog 68 = true := by kernel_rfl
theorem ct69 : Sl.callT Tryz.prog 69 = true := by kernel_rfl
theorem ct70 : Sl.callT Tryz.prog 70 = true := by kernel_rfl
theorem ct71 : Sl.callT Tryz.prog 71 = true := by kernel_rfl
theorem ct72 : Sl.callT Tryz.prog 72 = true := by kernel_rfl
theorem ct73 : Sl.callT Tryz.prog 73 = true := by kernel_rfl
theorem ct74 : Sl.callT Tryz.prog 74 = true := by kernel_rfl
theorem ct75 : Sl.callT Tryz.prog 75 = true := by kernel_rfl
theorem ct76 : Sl.callT Tryz.prog 76 = true := by kernel_rfl
theorem ct77 : Sl.callT Tryz.prog 77 = true := by kernel_rfl
theorem ct78 : Sl.callT Tryz.prog 78 = true := by kernel_rfl
theorem ct79 : Sl.callT Tryz.prog 79 = true := by kernel_rfl
theorem ct80 : Sl.callT Tryz.prog 80 = true := by kernel_rfl
theorem ct81 : Sl.callT Tryz.prog 81 = true := by kernel_rfl
theorem ct82 : Sl.callT Tryz.prog 82 = true := by kernel_rfl
theorem ct83 : Sl.callT Tryz.prog 83 = true := by kernel_rfl
theorem ct84 : Sl.callT Tryz.prog 84 = true := by kernel_rfl
theorem ct85 : Sl.callT Tryz.prog 85 = true := by kernel_rfl
theorem ct86 : Sl.callT Tryz.prog 86 = true := by kernel_rfl
theorem ct87 : Sl.callT Tryz.prog 87 = true := by kernel_rfl
theorem ct88 : Sl.callT Tryz.prog 88 = true := by kernel_rfl
theorem ct89 : Sl.callT Tryz.prog 89 = true := by kernel_rfl
theorem ct90 : Sl.callT Tryz.prog 90 = true := by kernel_rfl
theorem ct91 : Sl.callT Tryz.prog 91 = true := by kernel_rfl
theorem ct92 : Sl.callT Tryz.prog 92 = true := by kernel_rfl
theorem ct93 : Sl.callT Tryz.prog 93 = true := by kernel_rfl
theorem ct94 : Sl.callT Tryz.prog 94 = true := by kernel_rfl
theorem ct95 : Sl.callT Tryz.prog 95 = true := by kernel_rfl
theorem ct98 : Sl.callT Tryz.prog 98 = true := by kernel_rfl
theorem ct99 : Sl.callT Tryz.prog 99 = true := by kernel_rfl
theorem ct100 : Sl.callT Tryz.prog 100 = true := by kernel_rfl
theorem ct119 : Sl.callT Tryz.prog 119 = true := by kernel_rfl
theorem ct120 : Sl.callT Tryz.prog 120 = true := by kernel_rfl
theorem ct121 : Sl.callT Tryz.prog 121 = true := by kernel_rfl
theorem eq46 : Sl.eqT Tryz.prog 46 = some [(0, .int), (1, .int)] := by kernel_rfl
theorem fl29f0 : Sl.fieldT Tryz.prog 29 0 0 = true := by kernel_rfl
theorem fl29f1 : Sl.fieldT Tryz.prog 29 1 1 = true := by kernel_rfl
theorem fl29f2 : Sl.fieldT Tryz.prog 29 2 2 = true := by kernel_rfl
theorem fl29f3 : Sl.fieldT Tryz.prog 29 3 3 = true := by kernel_rfl
theorem fl29f4 : Sl.fieldT Tryz.prog 29 4 4 = true := by kernel_rfl
theorem fl46f0 : Sl.fieldT Tryz.prog 46 0 0 = true := by kernel_rfl
theorem fl46f1 : Sl.fieldT Tryz.prog 46 1 1 = true := by kernel_rfl
theorem fl48f0 : Sl.fieldT Tryz.prog 48 0 0 = true := by kernel_rfl
theorem fl48f1 : Sl.fieldT Tryz.prog 48 1 1 = true := by kernel_rfl
theorem fl48f2 : Sl.fieldT Tryz.prog 48 2 2 = true := by kernel_rfl
theorem fl48f3 : Sl.fieldT Tryz.prog 48 3 3 = true := by kernel_rfl
theorem fl48f4 : Sl.fieldT Tryz.prog 48 4 4 = true := by kernel_rfl
theorem fl48f5 : Sl.fieldT Tryz.prog 48 5 6 = true := by kernel_rfl
theorem fl53f0 : Sl.fieldT Tryz.prog 53 0 0 = true := by kernel_rfl
theorem fl53f1 : Sl.fieldT Tryz.prog 53 1 1 = true := by kernel_rfl
theorem fl53f2 : Sl.fieldT Tryz.prog 53 2 2 = true := by kernel_rfl
theorem fl57f0 : Sl.fieldT Tryz.prog 57 0 0 = true := by kernel_rfl
theorem fl57f1 : Sl.fieldT Tryz.prog 57 1 1 = true := by kernel_rfl
theorem fl57f2 : Sl.fieldT Tryz.prog 57 2 2 = true := by kernel_rfl
theorem fl57f3 : Sl.fieldT Tryz.prog 57 3 3 = true := by kernel_rfl
theorem fl57f4 : Sl.fieldT Tryz.prog 57 4 5 = true := by kernel_rfl
theorem fl68f0 : Sl.fieldT Tryz.prog 68 0 0 = true := by kernel_rfl
theorem fl68f1 : Sl.fieldT Tryz.prog 68 1 1 = true := by kernel_rfl
theorem fl68f2 : Sl.fieldT Tryz.prog 68 2 2 = true := by kernel_rfl
theorem fl68f3 : Sl.fieldT Tryz.prog 68 3 3 = true := by kernel_rfl
theorem fl68f4 : Sl.fieldT Tryz.prog 68 4 4 = true := by kernel_rfl
theorem fl75f0 : Sl.fieldT Tryz.prog 75 0 0 = true := by kernel_rfl
theorem fl75f1 : Sl.fieldT Tryz.prog 75 1 1 = true := by kernel_rfl
theorem fl79f0 : Sl.fieldT Tryz.prog 79 0 0 = true := by kernel_rfl
theorem fl79f1 : Sl.fieldT Tryz.prog 79 1 1 = true := by kernel_rfl
theorem fl79f2 : Sl.fieldT Tryz.prog 79 2 2 = true := by kernel_rfl
theorem fl86f0 : Sl.fieldT Tryz.prog 86 0 0 = true := by kernel_rfl
theorem fl86f1 : Sl.fieldT Tryz.prog 86 1 1 = true := by kernel_rfl
theorem fl86f2 : Sl.fieldT Tryz.prog 86 2 2 = true := by kernel_rfl
theorem fl86f3 : Sl.fieldT Tryz.prog 86 3 3 = true := by kernel_rfl
theorem fl100f0 : Sl.fieldT Tryz.prog 100 0 0 = true := by kernel_rfl
theorem fl100f1 : Sl.fieldT Tryz.prog 100 1 1 = true := by kernel_rfl
theorem fl100f2 : Sl.fieldT Tryz.prog 100 2 2 = true := by kernel_rfl
theorem fl100f3 : Sl.fieldT Tryz.prog 100 3 3 = true := by kernel_rfl
theorem fl112f0 : Sl.fieldT Tryz.prog 112 0 0 = true := by kernel_rfl
theorem fl112f1 : Sl.fieldT Tryz.prog 112 1 1 = true := by kernel_rfl
theorem fl112f2 : Sl.fieldT Tryz.prog 112 2 2 = true := by kernel_rfl
theorem fl112f3 : Sl.fieldT Tryz.prog 112 3 3 = true := by kernel_rfl
theorem fl117f0 : Sl.fieldT Tryz.prog 117 0 0 = true := by kernel_rfl
theorem fl117f1 : Sl.fieldT Tryz.prog 117 1 1 = true := by kernel_rfl
theorem fl117f2 : Sl.fieldT Tryz.prog 117 2 2 = true := by kernel_rfl
theorem fl125f0 : Sl.fieldT Tryz.prog 125 0 0 = true := by kernel_rfl
theorem fl125f1 : Sl.fieldT Tryz.prog 125 1 1 = true := by kernel_rfl
theorem fl138f0 : Sl.fieldT Tryz.prog 138 0 0 = true := by kernel_rfl
theorem fl138f1 : Sl.fieldT Tryz.prog 138 1 1 = true := by kernel_rfl
theorem is3 : (Tryz.prog.underlying 3).isSome = true := by kernel_rfl
theorem is5 : (Tryz.prog.underlying 5).isSome = true := by kernel_rfl
theorem is70 : (Tryz.prog.underlying 70).isSome = true := by kernel_rfl
theorem is139 : (Tryz.prog.underlying 139).isSome = true := by kernel_rfl
theorem pl3 : Sl.plainT Tryz.prog 3 = true := by kernel_rfl
theorem pl4 : Sl.plainT Tryz.prog 4 = true := by kernel_rfl
theorem pl5 : Sl.plainT Tryz.prog 5 = true := by kernel_rfl
theorem pl9 : Sl.plainT Tryz.prog 9 = true := by kernel_rfl
theorem pl23 : Sl.plainT Tryz.prog 23 = true := by kernel_rfl
theorem pl24 : Sl.plainT Tryz.prog 24 = true := by kernel_rfl
theorem pl26 : Sl.plainT Tryz.prog 26 = true := by kernel_rfl
theorem pl27 : Sl.plainT Tryz.prog 27 = true := by kernel_rfl
theorem pl33 : Sl.plainT Tryz.prog 33 = true := by kernel_rfl
theorem pl50 : Sl.plainT Tryz.prog 50 = true := by kernel_rfl
theorem pl51 : Sl.plainT Tryz.prog 51 = true := by kernel_rfl
theorem pl66 : Sl.plainT Tryz.prog 66 = true := by kernel_rfl
theorem pl73 : Sl.plainT Tryz.prog 73 = true := by kernel_rfl
theorem pl80 : Sl.plainT Tryz.prog 80 = true := by kernel_rfl
theorem pl83 : Sl.plainT Tryz.prog 83 = true := by kernel_rfl
theorem pl84 : Sl.plainT Tryz.prog 84 = true := by kernel_rfl
theorem sz3 : Sl.sizeT Tryz.prog 3 1 = true := by kernel_rfl
theorem sz4 : Sl.sizeT Tryz.prog 4 1 = true := by kernel_rfl
theorem sz5 : Sl.sizeT Tryz.prog 5 1 = true := by kernel_rfl
theorem sz9 : Sl.sizeT Tryz.prog 9 1 = true := by kernel_rfl
theorem sz23 : Sl.sizeT Tryz.prog 23 1 = true := by kernel_rfl
theorem sz27 : Sl.sizeT Tryz.prog 27 1 = true := by kernel_rfl
theorem sz46 : Sl.sizeT Tryz.prog 46 2 = true := by kernel_rfl
theorem sz48 : Sl.sizeT Tryz.prog 48 7 = true := by kernel_rfl
theorem sz50 : Sl.sizeT Tryz.prog 50 1 = true := by kernel_rfl
theorem sz57 : Sl.sizeT Tryz.prog 57 6 = true := by kernel_rfl
theorem sz73 : Sl.sizeT Tryz.prog 73 1 = true := by kernel_rfl
theorem sz79 : Sl.sizeT Tryz.prog 79 3 = true := by kernel_rfl
theorem sz117 : Sl.sizeT Tryz.prog 117 4 = true := by kernel_rfl
theorem zx3 : (Tryz.prog.info? 3).map (fun i => (i.zero, i.size, i.bytes)) = some (some (.int .i64 0), 1, 8) := by kernel_rfl
theorem zt3 : Sl.zeroT Tryz.prog 3 (.int .i64 0) 1 8 := Sl.zeroT_of zx3
theorem zx5 : (Tryz.prog.info? 5).map (fun i => (i.zero, i.size, i.bytes)) = some (some (.int .u8 0), 1, 1) := by kernel_rfl
theorem zt5 : Sl.zeroT Tryz.prog 5 (.int .u8 0) 1 1 := Sl.zeroT_of zx5
theorem zx23 : (Tryz.prog.info? 23).map (fun i => (i.zero, i.size, i.bytes)) = some (some (.slice none 0 0), 1, 24) := by kernel_rfl
theorem zt23 : Sl.zeroT Tryz.prog 23 (.slice none 0 0) 1 24 := Sl.zeroT_of zx23
theorem zx29 : (Tryz.prog.info? 29).map (fun i => (i.zero, i.size, i.bytes)) = some (some (.agg #[.slice none 0 0, .bool false, .int .i64 0, .int .i64 0, .int .i64 0]), 5, 56) := by kernel_rfl
theorem zt29 : Sl.zeroT Tryz.prog 29 (.agg #[.slice none 0 0, .bool false, .int .i64 0, .int .i64 0, .int .i64 0]) 5 56 := Sl.zeroT_of zx29
theorem zx46 : (Tryz.prog.info? 46).map (fun i => (i.zero, i.size, i.bytes)) = some (some (.agg #[.int .i64 0, .int .i64 0]), 2, 16) := by kernel_rfl
theorem zt46 : Sl.zeroT Tryz.prog 46 (.agg #[.int .i64 0, .int .i64 0]) 2 16 := Sl.zeroT_of zx46
theorem zx48 : (Tryz.prog.info? 48).map (fun i => (i.zero, i.size, i.bytes)) = some (some (.agg #[.int .i64 0, .int .i64 0, .int .i64 0, .string ByteArray.empty, .int .i64 0, .int .i64 0, .slice none 0 0]), 7, 80) := by kernel_rfl
theorem zt48 : Sl.zeroT Tryz.prog 48 (.agg #[.int .i64 0, .int .i64 0, .int .i64 0, .string ByteArray.empty, .int .i64 0, .int .i64 0, .slice none 0 0]) 7 80 := Sl.zeroT_of zx48
theorem zx53 : (Tryz.prog.info? 53).map (fun i => (i.zero, i.size, i.bytes)) = some (some (.agg #[.slice none 0 0, .slice none 0 0, .pointer none]), 3, 56) := by kernel_rfl
theorem zt53 : Sl.zeroT Tryz.prog 53 (.agg #[.slice none 0 0, .slice none 0 0, .pointer none]) 3 56 := Sl.zeroT_of zx53
theorem zx57 : (Tryz.prog.info? 57).map (fun i => (i.zero, i.size, i.bytes)) = some (some (.agg #[.int .i64 0, .string ByteArray.empty, .int .i64 0, .int .i64 0, .int .i64 0, .slice none 0 0]), 6, 72) := by kernel_rfl
theorem zt57 : Sl.zeroT Tryz.prog 57 (.agg #[.int .i64 0, .string ByteArray.empty, .int .i64 0, .int .i64 0, .int .i64 0, .slice none 0 0]) 6 72 := Sl.zeroT_of zx57
theorem zx68 : (Tryz.prog.info? 68).map (fun i => (i.zero, i.size, i.bytes)) = some (some (.agg #[.map none, .bool false, .int .i64 0, .int .i64 0, .int .i64 0]), 5, 40) := by kernel_rfl
theorem zt68 : Sl.zeroT Tryz.prog 68 (.agg #[.map none, .bool false, .int .i64 0, .int .i64 0, .int .i64 0]) 5 40 := Sl.zeroT_of zx68
theorem zx73 : (Tryz.prog.info? 73).map (fun i => (i.zero, i.size, i.bytes)) = some (some (.pointer none), 1, 8) := by kernel_rfl
theorem zt73 : Sl.zeroT Tryz.prog 73 (.pointer none) 1 8 := Sl.zeroT_of zx73
theorem zx75 : (Tryz.prog.info? 75).map (fun i => (i.zero, i.size, i.bytes)) = some (some (.agg #[.slice none 0 0, .int .i64 0]), 2, 32) := by kernel_rfl
theorem zt75 : Sl.zeroT Tryz.prog 75 (.agg #[.slice none 0 0, .int .i64 0]) 2 32 := Sl.zeroT_of zx75
theorem zx79 : (Tryz.prog.info? 79).map (fun i => (i.zero, i.size, i.bytes)) = some (some (.agg #[.string ByteArray.empty, .slice none 0 0, .int .i64 0]), 3, 48) := by kernel_rfl
theorem zt79 : Sl.zeroT Tryz.prog 79 (.agg #[.string ByteArray.empty, .slice none 0 0, .int .i64 0]) 3 48 := Sl.zeroT_of zx79
theorem zx86 : (Tryz.prog.info? 86).map (fun i => (i.zero, i.size, i.bytes)) = some (some (.agg #[.map none, .map none, .pointer none, .bool false]), 4, 32) := by kernel_rfl
theorem zt86 : Sl.zeroT Tryz.prog 86 (.agg #[.map none, .map none, .pointer none, .bool false]) 4 32 := Sl.zeroT_of zx86
theorem zx100 : (Tryz.prog.info? 100).map (fun i => (i.zero, i.size, i.bytes)) = some (some (.agg #[.pointer none, .string ByteArray.empty, .int .i64 0, .bool false]), 4, 40) := by kernel_rfl
theorem zt100 : Sl.zeroT Tryz.prog 100 (.agg #[.pointer none, .string ByteArray.empty, .int .i64 0, .bool false]) 4 40 := Sl.zeroT_of zx100
theorem zx112 : (Tryz.prog.info? 112).map (fun i => (i.zero, i.size, i.bytes)) = some (some (.agg #[.pointer none, .string ByteArray.empty, .int .i64 0, .bool false]), 4, 40) := by kernel_rfl
theorem zt112 : Sl.zeroT Tryz.prog 112 (.agg #[.pointer none, .string ByteArray.empty, .int .i64 0, .bool false]) 4 40 := Sl.zeroT_of zx112
theorem zx117 : (Tryz.prog.info? 117).map (fun i => (i.zero, i.size, i.bytes)) = some (some (.agg #[.string ByteArray.empty, .int .i64 0, .int .i64 0, .int .i64 0]), 4, 40) := by kernel_rfl
theorem zt117 : Sl.zeroT Tryz.prog 117 (.agg #[.string ByteArray.empty, .int .i64 0, .int .i64 0, .int .i64 0]) 4 40 := Sl.zeroT_of zx117
theorem zx125 : (Tryz.prog.info? 125).map (fun i => (i.zero, i.size, i.bytes)) = some (some (.agg #[.slice none 0 0, .bool false]), 2, 32) := by kernel_rfl
theorem zt125 : Sl.zeroT Tryz.prog 125 (.agg #[.slice none 0 0, .bool false]) 2 32 := Sl.zeroT_of zx125
theorem zx138 : (Tryz.prog.info? 138).map (fun i => (i.zero, i.size, i.bytes)) = some (some (.agg #[.slice none 0 0, .bool false]), 2, 32) := by kernel_rfl
theorem zt138 : Sl.zeroT Tryz.prog 138 (.agg #[.slice none 0 0, .bool false]) 2 32 := Sl.zeroT_of zx138
end Go.Proofs.YthljpljbpbkkcaaGreatDoor
end
section
set_option linter.unusedVariables false
set_option linter.unusedSimpArgs false
set_option maxRecDepth 4000
namespace Go.Proofs.YthljpljbpbkkcaaGreatDoor
open Go.Sl Go.RowKit Go.Pack Go.Vault

abbrev cutV : ByteArray := ByteArray.mk #[97, 98, 99, 100, 101, 102, 103, 104, 105, 106, 107, 108, 109, 110, 111, 112, 113, 114, 115, 116, 117, 118, 119, 120, 121, 122, 48, 49, 50, 51, 52, 53, 54, 55, 56, 57, 45]
theorem cutV_mem (c : UInt8) : cutV.data.toList.contains c = true ↔ NmC c := by
  have h : ∀ n : Fin 256, (cutV.data.toList.contains (UInt8.ofNat n.val) = true ↔ NmC (UInt8.ofNat n.val)) := by decide
  have := h ⟨c.toNat, c.toNat_lt⟩
  rwa [show UInt8.ofNat c.toNat = c from UInt8.ofNat_toNat] at this
theorem dropWhile_nil {α : Type} {p : α → Bool} : ∀ {l : List α}, l.dropWhile p = [] ↔ ∀ x ∈ l, p x = true
  | [] => by simp
  | a :: l => by
    by_cases h : p a = true
    · rw [List.dropWhile_cons_of_pos h, dropWhile_nil]; simp [h]
    · rw [List.dropWhile_cons_of_neg h]; simp [h]
theorem trim_nil {l cs : List UInt8} : Lib.trimS l cs = [] ↔ ∀ c ∈ l, cs.contains c = true := by
  unfold Lib.trimS Lib.trimLeftS Lib.trimRightS
  constructor
  · intro h c hc
    rw [dropWhile_nil] at h
    by_cases hq : ∀ x ∈ l, cs.contains x = true
    · exact hq c hc
    · exfalso
      have h1 : l.reverse.dropWhile (cs.contains ·) ≠ [] := fun e => hq fun x hx => dropWhile_nil.1 e x (List.mem_reverse.2 hx)
      have h2 := List.head_dropWhile_not (cs.contains ·) h1
      have h3 := h _ (List.mem_reverse.2 (List.head_mem h1))
      simp_all
  · intro h
    have h1 : l.reverse.dropWhile (cs.contains ·) = [] := dropWhile_nil.2 fun x hx => h x (List.mem_reverse.1 hx)
    rw [h1]; rfl
theorem str_trim {w0 : World} {A : List HProp} {s : ByteArray} (hs : s.size ≤ 140737488351232) : Fun Tryz.prog w0 98 [.string s, .string cutV] A (Ret w0 (fun _ : Unit => True) (fun _ => .string ⟨(Lib.trimS s.data.toList cutV.data.toList).toArray⟩) (fun _ => A)) :=
  ⟨fun w hw => (Any.strings_Trim_laid ly_trim (by kernel_rfl) s cutV w (by omega) (by decide) (ascii_of_all (by decide))).mono fun e w' ⟨he, hb⟩ => ⟨(), trivial, he, hw.grown hb⟩⟩
theorem ba_nil {l : List UInt8} : (⟨l.toArray⟩ : ByteArray) = ByteArray.mk #[] ↔ l = [] := by
  constructor
  · intro h
    have := congrArg (fun x : ByteArray => x.data.toList) h
    simpa using this
  · rintro rfl; rfl
theorem ba_nil' {s : ByteArray} : s = ByteArray.mk #[] ↔ s.data.toList = [] := by
  obtain ⟨⟨l⟩⟩ := s
  exact ba_nil
theorem v_named {w0 : World} {A : List HProp} {s : ByteArray} (hs : s.size ≤ 140737488351232) : Fun Tryz.prog w0 89 [.string s] A (Ret w0 (fun _ : Unit => True) (fun _ => .bool (decide (vName s))) (fun _ => A)) := by
  refine Fun.enter Tryz.func89 rfl Tryz.ntmps89 rfl ?_
  refine WC.seq <| WC.region <| sv (vaB rfl) <| WL.nil <| WX.thenN <| ?_
  refine WC.cutS [(2, .bool (decide (vName s)))] [] trivial ?_ fun ρh => ?_
  · -- vault.go:30
    refine WC.region <| sv (vmT rfl) <| svs (vnes rfl rfl) (fun q1 => ?_) (fun q1 => ?_)
    ·
      refine sv (vmB rfl) <| svg rfl (vmT rfl) <| svg rfl (vlens Tryz.underlying9 rfl) <| svsg rfl (vle rfl rfl) (fun q2 => ?_) (fun q2 => ?_)
      ·
        refine sv (vpkt rfl) <| sv (vmB rfl) <| svg rfl (vmT rfl) <| gy rfl <| clx (by repeat' (first | with_reducible exact Sb.all | exact Sb.nil | (apply Sb.cons; focus (first | ((repeat (first | with_reducible exact Tk.here | with_reducible apply Tk.there)); done) | ((repeat (first | exact Tk.here | apply Tk.there)); done))) | apply Sb.drop)) (str_trim hs) ct98 rfl fun r1 hr1 => ?_
        exact svg rfl (veqs rfl rfl) <| sv (vpkt rfl) <| sv (vaB rfl) <| WL.nil <| WX.mid () trivial ⟨bI (by rw [ba_nil, trim_nil]; exact ⟨fun h => ⟨fun e => q1 (ba_nil'.2 e), by omega, fun c hc => (cutV_mem c).1 (h c hc)⟩, fun h c hc => (cutV_mem c).2 (h.2.2 c hc)⟩), trivial⟩ trivial (fun _ h => Sb.own (by repeat' (first | with_reducible exact Sb.all | exact Sb.nil | (apply Sb.cons; focus (first | ((repeat (first | with_reducible exact Tk.here | with_reducible apply Tk.there)); done) | ((repeat (first | exact Tk.here | apply Tk.there)); done))) | apply Sb.drop)) h)
      ·
        exact sv (vpkt rfl) <| sv (vmB rfl) <| sng rfl <| sng rfl <| sng rfl <| sv (vpkf rfl) <| sv (vaB rfl) <| WL.nil <| WX.mid () trivial ⟨bF (fun h => by have := h.2.1; omega), trivial⟩ trivial (fun _ h => Sb.own (by repeat' (first | with_reducible exact Sb.all | exact Sb.nil | (apply Sb.cons; focus (first | ((repeat (first | with_reducible exact Tk.here | with_reducible apply Tk.there)); done) | ((repeat (first | exact Tk.here | apply Tk.there)); done))) | apply Sb.drop)) h)
    ·
      exact sv (vmB rfl) <| sng rfl <| sng rfl <| sng rfl <| sv (vpkf rfl) <| sv (vmB rfl) <| sng rfl <| sng rfl <| sng rfl <| sv (vpkf rfl) <| sv (vaB rfl) <| WL.nil <| WX.mid () trivial ⟨bF (fun h => h.1 (ba_nil'.1 (Decidable.not_not.1 q1))), trivial⟩ trivial (fun _ h => Sb.own (by repeat' (first | with_reducible exact Sb.all | exact Sb.nil | (apply Sb.cons; focus (first | ((repeat (first | with_reducible exact Tk.here | with_reducible apply Tk.there)); done) | ((repeat (first | exact Tk.here | apply Tk.there)); done))) | apply Sb.drop)) h)
  exact WC.ret <| WX.ret1 rfl (()) (trivial) rfl (fun _ h => Sb.own (by repeat' (first | with_reducible exact Sb.all | exact Sb.nil | (apply Sb.cons; focus (first | ((repeat (first | with_reducible exact Tk.here | with_reducible apply Tk.there)); done) | ((repeat (first | exact Tk.here | apply Tk.there)); done))) | apply Sb.drop)) h)
theorem v_counts {w0 : World} {A : List HProp} {n : Int} : Fun Tryz.prog w0 90 [.int .i64 n] A (Ret w0 (fun _ : Unit => True) (fun _ => .bool (decide (cntP n))) (fun _ => A)) := by
  refine Fun.enter Tryz.func90 rfl Tryz.ntmps90 rfl ?_
  refine WC.seq <| WC.region <| sv (vaB rfl) <| WL.nil <| WX.thenN <| ?_
  refine WC.cutS [(2, .bool (decide (cntP n)))] [] trivial ?_ fun ρh => ?_
  · -- vault.go:33
    refine WC.region <| sv (vmI rfl) <| svs (vge rfl rfl) (fun q1 => ?_) (fun q1 => ?_)
    ·
      exact sv (vmB rfl) <| svg rfl (vmI rfl) <| svg rfl (vle rfl rfl) <| sv (vpkt rfl) <| sv (vaB rfl) <| WL.nil <| WX.mid () trivial ⟨bI (by unfold cntP; omega), trivial⟩ trivial (fun _ h => Sb.own (by repeat' (first | with_reducible exact Sb.all | exact Sb.nil | (apply Sb.cons; focus (first | ((repeat (first | with_reducible exact Tk.here | with_reducible apply Tk.there)); done) | ((repeat (first | exact Tk.here | apply Tk.there)); done))) | apply Sb.drop)) h)
    ·
      exact sv (vmB rfl) <| sng rfl <| sng rfl <| sv (vpkf rfl) <| sv (vaB rfl) <| WL.nil <| WX.mid () trivial ⟨bF (by unfold cntP; omega), trivial⟩ trivial (fun _ h => Sb.own (by repeat' (first | with_reducible exact Sb.all | exact Sb.nil | (apply Sb.cons; focus (first | ((repeat (first | with_reducible exact Tk.here | with_reducible apply Tk.there)); done) | ((repeat (first | exact Tk.here | apply Tk.there)); done))) | apply Sb.drop)) h)
  exact WC.ret <| WX.ret1 rfl (()) (trivial) rfl (fun _ h => Sb.own (by repeat' (first | with_reducible exact Sb.all | exact Sb.nil | (apply Sb.cons; focus (first | ((repeat (first | with_reducible exact Tk.here | with_reducible apply Tk.there)); done) | ((repeat (first | exact Tk.here | apply Tk.there)); done))) | apply Sb.drop)) h)
theorem v_may {w0 : World} {A : List HProp} {k n : Int} : Fun Tryz.prog w0 91 [.agg #[.int .i64 k, .int .i64 n]] A (Ret w0 (fun _ : Unit => True) (fun _ => .bool (decide (mayP k n))) (fun _ => A)) := by
  refine Fun.enter Tryz.func91 rfl Tryz.ntmps91 rfl ?_
  refine WC.seq <| WC.region <| bxc (v := .agg _) (cs := [.int _ _, .int _ _]) rfl rfl fun b1 =>sv (vaB rfl) <| WL.nil <| WX.thenN <| ?_
  refine WC.cutS [(2, .bool (decide (mayP k n)))] [] trivial ?_ fun ρh => ?_
  · -- vault.go:36
    refine WC.region <| sv (vfldpz fl46f0 rfl) <| sv (vldc pl3 rfl) <| svs (veq rfl rfl) (fun q1 => ?_) (fun q1 => ?_)
    ·
      refine sv (vmB rfl) <| sng rfl <| sng rfl <| sng rfl <| sv (vpkt rfl) <| sv (vmB rfl) <| svg rfl (vfldp fl46f1 rfl) <| svg rfl (vldc pl3 rfl) <| svsg rfl (vge rfl rfl) (fun q2 => ?_) (fun q2 => ?_)
      ·
        exact sv (vpkt rfl) <| sv (vmB rfl) <| svg rfl (vfldp fl46f1 rfl) <| svg rfl (vldc pl3 rfl) <| svg rfl (vlt rfl rfl) <| sv (vpkt rfl) <| sv (vaB rfl) <| WL.nil <| WX.mid () trivial ⟨bI (by unfold mayP; omega), trivial⟩ trivial (fun _ h => Sb.own (by repeat' (first | with_reducible exact Sb.all | exact Sb.nil | (apply Sb.cons; focus (first | ((repeat (first | with_reducible exact Tk.here | with_reducible apply Tk.there)); done) | ((repeat (first | exact Tk.here | apply Tk.there)); done))) | apply Sb.drop)) h)
      ·
        exact sv (vpkt rfl) <| sv (vmB rfl) <| sng rfl <| sng rfl <| sng rfl <| sv (vpkf rfl) <| sv (vaB rfl) <| WL.nil <| WX.mid () trivial ⟨bF (by unfold mayP; omega), trivial⟩ trivial (fun _ h => Sb.own (by repeat' (first | with_reducible exact Sb.all | exact Sb.nil | (apply Sb.cons; focus (first | ((repeat (first | with_reducible exact Tk.here | with_reducible apply Tk.there)); done) | ((repeat (first | exact Tk.here | apply Tk.there)); done))) | apply Sb.drop)) h)
    ·
      refine sv (vmB rfl) <| svg rfl (vfldpz fl46f0 rfl) <| svg rfl (vldc pl3 rfl) <| svsg rfl (veq rfl rfl) (fun q3 => ?_) (fun q3 => ?_)
      ·
        refine sv (vpkf rfl) <| sv (vmB rfl) <| svg rfl (vfldp fl46f1 rfl) <| svg rfl (vldc pl3 rfl) <| svsg rfl (vge rfl rfl) (fun q4 => ?_) (fun q4 => ?_)
        ·
          exact sv (vpkt rfl) <| sv (vmB rfl) <| svg rfl (vfldp fl46f1 rfl) <| svg rfl (vldc pl3 rfl) <| svg rfl (vlt rfl rfl) <| sv (vpkt rfl) <| sv (vaB rfl) <| WL.nil <| WX.mid () trivial ⟨bI (by unfold mayP; omega), trivial⟩ trivial (fun _ h => Sb.own (by repeat' (first | with_reducible exact Sb.all | exact Sb.nil | (apply Sb.cons; focus (first | ((repeat (first | with_reducible exact Tk.here | with_reducible apply Tk.there)); done) | ((repeat (first | exact Tk.here | apply Tk.there)); done))) | apply Sb.drop)) h)
        ·
          exact sv (vpkt rfl) <| sv (vmB rfl) <| sng rfl <| sng rfl <| sng rfl <| sv (vpkf rfl) <| sv (vaB rfl) <| WL.nil <| WX.mid () trivial ⟨bF (by unfold mayP; omega), trivial⟩ trivial (fun _ h => Sb.own (by repeat' (first | with_reducible exact Sb.all | exact Sb.nil | (apply Sb.cons; focus (first | ((repeat (first | with_reducible exact Tk.here | with_reducible apply Tk.there)); done) | ((repeat (first | exact Tk.here | apply Tk.there)); done))) | apply Sb.drop)) h)
      ·
        exact sv (vpkf rfl) <| sv (vmB rfl) <| sng rfl <| sng rfl <| sng rfl <| sv (vpkf rfl) <| sv (vmB rfl) <| sng rfl <| sng rfl <| sng rfl <| sv (vpkf rfl) <| sv (vaB rfl) <| WL.nil <| WX.mid () trivial ⟨bF (by unfold mayP; omega), trivial⟩ trivial (fun _ h => Sb.own (by repeat' (first | with_reducible exact Sb.all | exact Sb.nil | (apply Sb.cons; focus (first | ((repeat (first | with_reducible exact Tk.here | with_reducible apply Tk.there)); done) | ((repeat (first | exact Tk.here | apply Tk.there)); done))) | apply Sb.drop)) h)
  exact WC.ret <| WX.ret1 rfl (()) (trivial) rfl (fun _ h => Sb.own (by repeat' (first | with_reducible exact Sb.all | exact Sb.nil | (apply Sb.cons; focus (first | ((repeat (first | with_reducible exact Tk.here | with_reducible apply Tk.there)); done) | ((repeat (first | exact Tk.here | apply Tk.there)); done))) | apply Sb.drop)) h)
abbrev pkl (k : PK) : List Value := [.string k.flow, .int .i64 k.num, .int .i64 k.kind, .int .i64 k.n]
abbrev pkv (k : PK) : Value := .agg (pkl k).toArray
theorem pkv_inj {a b : PK} (h : pkv a = pkv b) : a = b := by
  obtain ⟨f, n, k, m⟩ := a
  obtain ⟨f', n', k', m'⟩ := b
  simp only [pkv, pkl, Value.agg.injEq, List.toArray_eq_toArray_eq, List.cons.injEq, Value.string.injEq, Value.int.injEq, true_and, and_true] at h
  obtain ⟨rfl, rfl, rfl, rfl⟩ := h
  rfl
abbrev KP : Value → Prop := fun v => ∃ l, keyOf Tryz.prog 117 v = some l
theorem place_law : KeyK Tryz.prog 117 KP := KeyK.deep (m := 5) (by omega) (by kernel_rfl) (by kernel_rfl) (by kernel_rfl)
structure PkOk (k : PK) : Prop where
  flow : k.flow.size ≤ 140737488351232
  num : -9223372036854775808 ≤ k.num ∧ k.num ≤ 9223372036854775807
  kind : -9223372036854775808 ≤ k.kind ∧ k.kind ≤ 9223372036854775807
  n : -9223372036854775808 ≤ k.n ∧ k.n ≤ 9223372036854775807
theorem wf64 {n : Int} (h : -9223372036854775808 ≤ n ∧ n ≤ 9223372036854775807) : (Lit.int .i64 n).wf = true := by
  have e1 : IntKind.i64.min = -9223372036854775808 := by decide
  have e2 : IntKind.i64.max = 9223372036854775807 := by decide
  simp [Lit.wf, IntKind.has, e1, e2]
  omega
theorem kp_ok {k : PK} (h : PkOk k) : KP (pkv k) := by
  obtain ⟨d, hd⟩ : ∃ d, Tryz.prog.types.size = d + 2 := ⟨Tryz.prog.types.size - 2, by
    have : Nat.ble 2 Tryz.prog.types.size = true := by kernel_rfl
    have := Nat.le_of_ble_eq_true this
    omega⟩
  refine keyOf_struct (l := [(9, 0, 1), (3, 1, 1), (46, 2, 2)]) (cs := pkl k) (ls := [[.string k.flow.data.toList], [.int .i64 k.num], [[Lit.int .i64 k.kind], [Lit.int .i64 k.n]].flatten]) (by kernel_rfl) (by kernel_rfl) hd (by kernel_rfl) ?_
  have h1 : Tryz.prog.keyLits (d + 2) 9 [.string k.flow] = some [.string k.flow.data.toList] := kl_str Tryz.underlying9 (by have := h.flow; unfold maxLen; omega)
  have h2 : Tryz.prog.keyLits (d + 2) 3 [.int .i64 k.num] = some [.int .i64 k.num] := kl_int Tryz.underlying3 (wf64 h.num)
  have h5 : Tryz.prog.keyLits (d + 1) 3 [.int .i64 k.kind] = some [.int .i64 k.kind] := kl_int Tryz.underlying3 (wf64 h.kind)
  have h6 : Tryz.prog.keyLits (d + 1) 3 [.int .i64 k.n] = some [.int .i64 k.n] := kl_int Tryz.underlying3 (wf64 h.n)
  have h3 : Tryz.prog.keyLits (d + 2) 46 [.int .i64 k.kind, .int .i64 k.n] = some [[Lit.int .i64 k.kind], [Lit.int .i64 k.n]].flatten := by
    refine kl_fields (l := [(3, 0, 1), (3, 1, 1)]) (by kernel_rfl) (by kernel_rfl) ?_
    simp only [List.mapM_cons, List.mapM_nil, List.drop_zero, List.take_succ_cons, List.take_zero, List.drop_succ_cons, h5, h6]
    rfl
  simp only [List.mapM_cons, List.mapM_nil, List.drop_zero, List.take_succ_cons, List.take_zero, List.drop_succ_cons, h1, h2, h3]
  rfl
end Go.Proofs.YthljpljbpbkkcaaGreatDoor
end
section
set_option linter.unusedVariables false
set_option linter.unusedSimpArgs false
set_option maxRecDepth 4000
namespace Go.Proofs.YthljpljbpbkkcaaGreatDoor
open Go.Sl Go.RowKit Go.Pack Go.Vault

structure VI where
  mp : Nat
  mf : Nat
  l : List (PK × Sla UInt8)
  fl : List (ByteArray × Int)
def lookP : List (PK × Sla UInt8) → PK → Option (List UInt8)
  | [], _ => none
  | x :: l, k => if x.1 = k then some x.2.xs else lookP l k
def lookF : List (ByteArray × Int) → ByteArray → Int
  | [], _ => 0
  | x :: l, k => if x.1 = k then x.2 else lookF l k
structure VRep (d : VD) (i : VI) : Prop where
  nd : (i.l.map Prod.fst).Nodup
  look : ∀ k, lookP i.l k = d.parts k
  ok : ∀ x ∈ i.l, PkOk x.1 ∧ (x.2.xs.length ≤ x.2.cap ∧ x.2.xs.length ≤ 1048576)
  ndf : (i.fl.map Prod.fst).Nodup
  floor : ∀ f, lookF i.fl f = d.floors f
def pents (l : List (PK × Sla UInt8)) : List (Value × Value) := l.map fun x => (pkv x.1, .slice x.2.base x.2.xs.length x.2.cap)
def fents (l : List (ByteArray × Int)) : List (Value × Value) := l.map fun x => (.string x.1, .int .i64 x.2)
abbrev vcl (i : VI) (j : Nat) (down : Bool) : List Value := [.map (some i.mp), .map (some i.mf), .pointer (some ⟨j, 0, none⟩), .bool down]
def pv (v j : Nat) (down : Bool) (d : VD) : HProp := fun h => ∃ i : VI, VRep d i ∧ star (cel v (vcl i j down) 86) (star (mpk KP i.mp (pents i.l)) (star (mp .string i.mf (fents i.fl)) (rows 5 (i.l.map Prod.snd)))) h
theorem pv_open {w0 w : World} {A : List HProp} {v j : Nat} {down : Bool} {d : VD} (H : Own w0 (pv v j down d :: A) w) :
    ∃ i : VI, VRep d i ∧ Own w0 (cel v (vcl i j down) 86 :: mpk KP i.mp (pents i.l) :: mp .string i.mf (fents i.fl) :: rows 5 (i.l.map Prod.snd) :: A) w := by
  obtain ⟨hb, h, ⟨h1, h2, ⟨i, hi, a⟩, a2, dd, y⟩, hw⟩ := H
  have h3 : Own w0 (star (cel v (vcl i j down) 86) (star (mpk KP i.mp (pents i.l)) (star (mp .string i.mf (fents i.fl)) (rows 5 (i.l.map Prod.snd)))) :: A) w := ⟨hb, h, ⟨h1, h2, a, a2, dd, y⟩, hw⟩
  have h4 := h3.star.pk1.star.pk1.star
  exact ⟨i, hi, h4.ix [3, 2, 0, 1]⟩
theorem pv_mk {w0 w : World} {A : List HProp} {v j : Nat} {down : Bool} {d : VD} {i : VI} (hi : VRep d i) (H : Own w0 (cel v (vcl i j down) 86 :: mpk KP i.mp (pents i.l) :: mp .string i.mf (fents i.fl) :: rows 5 (i.l.map Prod.snd) :: A) w) : Own w0 (pv v j down d :: A) w := by
  have h1 := (H.ix [2, 3, 0, 1]).intro_star
  have h2 := (h1.ix [2, 0, 1]).intro_star
  have h3 := (h2.ix [1, 0]).intro_star
  exact h3.head fun _ h => ⟨i, hi, h⟩
theorem pents_at {l : List (PK × Sla UInt8)} {j : Nat} {x : PK × Sla UInt8} (h : l[j]? = some x) : (pents l)[j]? = some (pkv x.1, .slice x.2.base x.2.xs.length x.2.cap) := by simp [pents, h]
theorem pents_none {l : List (PK × Sla UInt8)} {k : PK} (h : lookP l k = none) : ∀ p ∈ pents l, p.1 ≠ pkv k := by
  induction l with
  | nil => intro p hp; simp [pents] at hp
  | cons x l ih =>
    unfold lookP at h
    split at h
    · cases h
    · rename_i hne
      intro p hp e
      simp only [pents, List.map_cons, List.mem_cons] at hp
      rcases hp with rfl | hp
      · exact hne (pkv_inj e)
      · exact ih h p hp e
theorem lookP_some {l : List (PK × Sla UInt8)} {k : PK} {b : List UInt8} (h : lookP l k = some b) : ∃ (j : Nat) (x : PK × Sla UInt8), l[j]? = some x ∧ x.1 = k ∧ x.2.xs = b := by
  induction l with
  | nil => cases h
  | cons x l ih =>
    unfold lookP at h
    split at h
    · rename_i he; cases h; exact ⟨0, x, rfl, he, rfl⟩
    · obtain ⟨j, y, h1, h2⟩ := ih h
      exact ⟨j + 1, y, by simpa using h1, h2⟩
theorem lookP_mem {l : List (PK × Sla UInt8)} (hn : (l.map Prod.fst).Nodup) {x : PK × Sla UInt8} (hx : x ∈ l) : lookP l x.1 = some x.2.xs := by
  induction l with
  | nil => cases hx
  | cons y l ih =>
    simp only [List.map_cons, List.nodup_cons] at hn
    unfold lookP
    rcases List.mem_cons.1 hx with rfl | hx
    · rw [if_pos rfl]
    · rw [if_neg (fun e => hn.1 (List.mem_map.2 ⟨x, hx, e.symm⟩)), ih hn.2 hx]
theorem VRep.get {d : VD} {i : VI} (h : VRep d i) (k : PK) : ∃ (b : Option Addr) (n c : Nat), GetE (pents i.l) (pkv k) (.slice none 0 0) (.slice b n c) (d.parts k).isSome := by
  cases hk : d.parts k with
  | none => exact ⟨_, _, _, .new (pents_none (by rw [h.look]; exact hk))⟩
  | some b =>
    obtain ⟨j, x, h1, rfl, _⟩ := lookP_some ((h.look k).trans hk)
    exact ⟨_, _, _, .old j _ (pents_at h1)⟩
theorem fents_cases : ∀ (l : List (ByteArray × Int)) (f : ByteArray), (∃ j : Nat, (fents l)[j]? = some (.string f, .int .i64 (lookF l f))) ∨ ((∀ p ∈ fents l, p.1 ≠ .string f) ∧ lookF l f = 0)
  | [], f => .inr ⟨fun p hp => by simp [fents] at hp, rfl⟩
  | x :: l, f => by
    unfold lookF
    by_cases he : x.1 = f
    · rw [if_pos he]
      exact .inl ⟨0, by simp [fents, he]⟩
    · rw [if_neg he]
      rcases fents_cases l f with ⟨j, h⟩ | ⟨h, h0⟩
      · exact .inl ⟨j + 1, by simpa [fents] using h⟩
      · refine .inr ⟨fun p hp => ?_, h0⟩
        simp only [fents, List.map_cons, List.mem_cons] at hp
        rcases hp with rfl | hp
        · intro e; cases e; exact he rfl
        · exact h p hp
theorem fents_get (l : List (ByteArray × Int)) (f : ByteArray) : ∃ b, GetE (fents l) (.string f) (.int .i64 0) (.int .i64 (lookF l f)) b := by
  rcases fents_cases l f with ⟨j, h⟩ | ⟨h, h0⟩
  · exact ⟨_, .old j _ h⟩
  · rw [h0]; exact ⟨_, .new h⟩
theorem v_puts {w0 : World} {A : List HProp} {v j : Nat} {down : Bool} {d : VD} {k : PK} (hk : PkOk k) : Fun Tryz.prog w0 62 [.pointer (some ⟨v, 0, none⟩), .agg (pkl k).toArray] (pv v j down d :: A) (Ret w0 (fun _ : Unit => True) (fun _ => .tuple #[.int .i64 (whyPut d k).1, .bool (whyPut d k).2]) (fun _ => pv v j down d :: A)) := by
  refine Fun.ex (fun w h => pv_open h) ?_
  rintro ⟨mp, mf, l, fl⟩ hi
  obtain ⟨gb, gn, gc, hgv⟩ := hi.get k
  obtain ⟨fb, hfb⟩ := fents_get fl k.flow
  rw [hi.floor] at hfb
  have hfl := hk.flow
  have hfold : ∀ {w : World} {B : List HProp}, Own w0 (cel v (vcl ⟨mp, mf, l, fl⟩ j down) 86 :: mpk KP mp (pents l) :: Sl.mp .string mf (fents fl) :: rows 5 (l.map Prod.snd) :: B) w → Own w0 (pv v j down d :: B) w := fun h => pv_mk hi h
  dsimp only [vcl] at hgv hfold ⊢
  refine Fun.enter Tryz.func62 rfl Tryz.ntmps62 rfl ?_
  refine WC.seq <| WC.region <| bxc (v := .agg _) (cs := [.string _, .int _ _, .int _ _, .int _ _]) rfl rfl fun b1 => sv (vaI rfl) <| sv (vaB rfl) <| WL.nil <| WX.thenN <| WC.seq <| WC.block <| WC.seq <| WC.region <| sv (vfldpz fl117f0 rfl) <| sv (vldc pl9 rfl) <| clx (by repeat' (first | with_reducible exact Sb.all | exact Sb.nil | (apply Sb.cons; focus (first | ((repeat (first | with_reducible exact Tk.here | with_reducible apply Tk.there)); done) | ((repeat (first | exact Tk.here | apply Tk.there)); done))) | apply Sb.drop)) (v_named hfl) ct89 rfl fun r3 hr3 => ?_
  refine sv (vnot rfl) <| sv (vaB rfl) <| WL.nil <| WX.thenN <| ?_
  refine WC.iteb rfl (fun h1 => ?_) (fun h1 => ?_)
  · -- then
    have e : whyPut d k = (51, false) := by unfold whyPut; rw [if_pos (by simpa using h1)]
    rw [e]
    exact WC.seq <| WC.region <| sv (vaI rfl) <| sv (vaB rfl) <| WL.nil <| WX.thenN <| WC.ret <| WX.blockR <| WX.thenR <| WX.ret2 rfl (()) (trivial) rfl (fun w h => by have h2 := hfold (Own.sp4 (by repeat' (first | exact Spl.nil | (apply Spl.cons; focus (first | ((repeat (first | with_reducible exact Tk.here | with_reducible apply Tk.there)); done) | ((repeat (first | exact Tk.here | apply Tk.there)); done))))) h); exact Sb.own (by repeat' (first | with_reducible exact Sb.all | exact Sb.nil | (apply Sb.cons; focus (first | ((repeat (first | with_reducible exact Tk.here | with_reducible apply Tk.there)); done) | ((repeat (first | exact Tk.here | apply Tk.there)); done))) | apply Sb.drop)) h2)
  · -- else
    have hnm : vName k.flow := by simpa using h1
    refine WC.cutS [(13, .bool (decide (¬ (cntP k.num ∧ mayP k.kind k.n))))] [(0, .pointer _), (3, _)] ⟨rfl, rfl, trivial⟩ ?_ fun ρh => ?_
    · -- vault.go:44
      refine WC.region <| sv (vfldp fl117f1 rfl) <| sv (vldc pl3 rfl) <| clx (by repeat' (first | with_reducible exact Sb.all | exact Sb.nil | (apply Sb.cons; focus (first | ((repeat (first | with_reducible exact Tk.here | with_reducible apply Tk.there)); done) | ((repeat (first | exact Tk.here | apply Tk.there)); done))) | apply Sb.drop)) (v_counts) ct90 rfl fun r5 hr5 => ?_
      refine svb (vnot rfl) (fun q1 => ?_) (fun q1 => ?_)
      ·
        exact sv (vmB rfl) <| sng rfl <| sng rfl <| sng rfl <| sng rfl <| sv (vpkt rfl) <| sv (vaB rfl) <| WL.nil <| WX.mid () trivial ⟨bT (fun h => by simp [h.1] at q1), trivial⟩ ⟨rfl, rfl, trivial⟩ (fun _ h => Sb.own (by repeat' (first | with_reducible exact Sb.all | exact Sb.nil | (apply Sb.cons; focus (first | ((repeat (first | with_reducible exact Tk.here | with_reducible apply Tk.there)); done) | ((repeat (first | exact Tk.here | apply Tk.there)); done))) | apply Sb.drop)) h)
      ·
        refine sv (vmB rfl) <| svg rfl (vfldp fl117f2 rfl) <| svg rfl (vldap (i := 2) (cs := [.int .i64 k.kind, .int .i64 k.n]) ag46 sz46 rfl rfl rfl (by decide)) <| gy rfl <| clx (by repeat' (first | with_reducible exact Sb.all | exact Sb.nil | (apply Sb.cons; focus (first | ((repeat (first | with_reducible exact Tk.here | with_reducible apply Tk.there)); done) | ((repeat (first | exact Tk.here | apply Tk.there)); done))) | apply Sb.drop)) (v_may) ct91 rfl fun r7 hr7 => ?_
        exact svg rfl (vnot rfl) <| sv (vpkf rfl) <| sv (vaB rfl) <| WL.nil <| WX.mid () trivial ⟨bB (by have hc : cntP k.num := by { simpa using q1 }; simp [hc]), trivial⟩ ⟨rfl, rfl, trivial⟩ (fun _ h => Sb.own (by repeat' (first | with_reducible exact Sb.all | exact Sb.nil | (apply Sb.cons; focus (first | ((repeat (first | with_reducible exact Tk.here | with_reducible apply Tk.there)); done) | ((repeat (first | exact Tk.here | apply Tk.there)); done))) | apply Sb.drop)) h)
    refine WC.ite rfl (fun h2 => ?_) (fun h2 => ?_)
    · -- then
      have e : whyPut d k = (1, false) := by unfold whyPut; rw [if_neg (fun h => h hnm), if_pos h2]
      rw [e]
      exact WC.seq <| WC.region <| sv (vaI rfl) <| sv (vaB rfl) <| WL.nil <| WX.thenN <| WC.ret <| WX.blockR <| WX.thenR <| WX.ret2 rfl (()) (trivial) rfl (fun w h => by have h2 := hfold (Own.sp4 (by repeat' (first | exact Spl.nil | (apply Spl.cons; focus (first | ((repeat (first | with_reducible exact Tk.here | with_reducible apply Tk.there)); done) | ((repeat (first | exact Tk.here | apply Tk.there)); done))))) h); exact Sb.own (by repeat' (first | with_reducible exact Sb.all | exact Sb.nil | (apply Sb.cons; focus (first | ((repeat (first | with_reducible exact Tk.here | with_reducible apply Tk.there)); done) | ((repeat (first | exact Tk.here | apply Tk.there)); done))) | apply Sb.drop)) h2)
    · -- else
      refine WC.seq <| WC.draws rfl (by kernel_rfl) <| qv (vfldp fl117f1 rfl) <| qv (vldc pl3 rfl) <| qv (vmP rfl) <| qv (vnil rfl) <| qv (vfldp fl86f1 rfl) <| qv (vldc pl84 rfl) <| qv (vfldpz fl117f0 rfl) <| qv (vldc pl9 rfl) <| qv (vlk1S Tryz.underlying84 Tryz.underlying9 zt3 rfl rfl trivial hfb) <| qv (vlt rfl rfl) <| qv (vaB rfl) <| WQ.nil <| WX.thenN <| ?_
      refine WC.ite rfl (fun h3 => ?_) (fun h3 => ?_)
      · -- then
        have e : whyPut d k = (7, false) := by unfold whyPut; rw [if_neg (fun h => h hnm), if_neg h2, if_pos h3]
        rw [e]
        exact WC.seq <| WC.region <| sv (vaI rfl) <| sv (vaB rfl) <| WL.nil <| WX.thenN <| WC.ret <| WX.blockR <| WX.thenR <| WX.ret2 rfl (()) (trivial) rfl (fun w h => by have h2 := hfold (Own.sp4 (by repeat' (first | exact Spl.nil | (apply Spl.cons; focus (first | ((repeat (first | with_reducible exact Tk.here | with_reducible apply Tk.there)); done) | ((repeat (first | exact Tk.here | apply Tk.there)); done))))) h); exact Sb.own (by repeat' (first | with_reducible exact Sb.all | exact Sb.nil | (apply Sb.cons; focus (first | ((repeat (first | with_reducible exact Tk.here | with_reducible apply Tk.there)); done) | ((repeat (first | exact Tk.here | apply Tk.there)); done))) | apply Sb.drop)) h2)
      · -- else
        have e : whyPut d k = (0, (d.parts k).isNone) := by unfold whyPut; rw [if_neg (fun h => h hnm), if_neg h2, if_neg h3]
        rw [e]
        exact WC.skip <| WX.blockN <| WX.thenN <| WC.seq <| WC.draws rfl (by kernel_rfl) <| qv (vmP rfl) <| qv (vnil rfl) <| qv (vfldpz fl86f0 rfl) <| qv (vldc pl83 rfl) <| qv (vldac ag117 sz117 rfl rfl (by decide)) <| qv (vlk2K Tryz.underlying83 place_law zt23 rfl rfl (kp_ok hk) hgv) <| qv vmv <| qv (vex rfl rfl) <| qv (vex rfl rfl) <| qv (vaS rfl) <| qv (vaB rfl) <| WQ.nil <| WX.thenN <| WC.seq <| WC.region <| sv (vmB rfl) <| sv (vnot rfl) <| sv (vaI rfl) <| sv (vaB rfl) <| WL.nil <| WX.thenN <| WC.ret <| WX.ret2 rfl (()) (trivial) (by show Value.tuple #[.int .i64 0, .bool (!(d.parts k).isSome)] = _; cases d.parts k <;> rfl) (fun w h => by have h2 := hfold (Own.sp4 (by repeat' (first | exact Spl.nil | (apply Spl.cons; focus (first | ((repeat (first | with_reducible exact Tk.here | with_reducible apply Tk.there)); done) | ((repeat (first | exact Tk.here | apply Tk.there)); done))))) h); exact Sb.own (by repeat' (first | with_reducible exact Sb.all | exact Sb.nil | (apply Sb.cons; focus (first | ((repeat (first | with_reducible exact Tk.here | with_reducible apply Tk.there)); done) | ((repeat (first | exact Tk.here | apply Tk.there)); done))) | apply Sb.drop)) h2)
theorem v_drops {w0 : World} {A : List HProp} {v j : Nat} {down : Bool} {d : VD} {f : ByteArray} {n : Int} (hf : f.size ≤ 140737488351232) : Fun Tryz.prog w0 64 [.pointer (some ⟨v, 0, none⟩), .string f, .int .i64 n] (pv v j down d :: A) (Ret w0 (fun _ : Unit => True) (fun _ => .tuple #[.int .i64 (whyDrop d f n).1, .bool (whyDrop d f n).2]) (fun _ => pv v j down d :: A)) := by
  refine Fun.ex (fun w h => pv_open h) ?_
  rintro ⟨mp, mf, l, fl⟩ hi
  obtain ⟨fb, hfb⟩ := fents_get fl f
  rw [hi.floor] at hfb
  have hfold : ∀ {w : World} {B : List HProp}, Own w0 (cel v (vcl ⟨mp, mf, l, fl⟩ j down) 86 :: mpk KP mp (pents l) :: Sl.mp .string mf (fents fl) :: rows 5 (l.map Prod.snd) :: B) w → Own w0 (pv v j down d :: B) w := fun h => pv_mk hi h
  dsimp only [vcl] at hfold ⊢
  refine Fun.enter Tryz.func64 rfl Tryz.ntmps64 rfl ?_
  refine WC.seq <| WC.region <| sv (vaI rfl) <| sv (vaB rfl) <| WL.nil <| WX.thenN <| WC.seq <| WC.block <| WC.seq <| WC.region <| sv (vmT rfl) <| clx (by repeat' (first | with_reducible exact Sb.all | exact Sb.nil | (apply Sb.cons; focus (first | ((repeat (first | with_reducible exact Tk.here | with_reducible apply Tk.there)); done) | ((repeat (first | exact Tk.here | apply Tk.there)); done))) | apply Sb.drop)) (v_named hf) ct89 rfl fun r1 hr1 => ?_
  refine sv (vnot rfl) <| sv (vaB rfl) <| WL.nil <| WX.thenN <| ?_
  refine WC.iteb rfl (fun h1 => ?_) (fun h1 => ?_)
  · -- then
    have e : whyDrop d f n = (51, false) := by unfold whyDrop; rw [if_pos (by simpa using h1)]
    rw [e]
    exact WC.seq <| WC.region <| sv (vaI rfl) <| sv (vaB rfl) <| WL.nil <| WX.thenN <| WC.ret <| WX.blockR <| WX.thenR <| WX.ret2 rfl (()) (trivial) rfl (fun w h => by have h2 := hfold (Own.sp4 (by repeat' (first | exact Spl.nil | (apply Spl.cons; focus (first | ((repeat (first | with_reducible exact Tk.here | with_reducible apply Tk.there)); done) | ((repeat (first | exact Tk.here | apply Tk.there)); done))))) h); exact Sb.own (by repeat' (first | with_reducible exact Sb.all | exact Sb.nil | (apply Sb.cons; focus (first | ((repeat (first | with_reducible exact Tk.here | with_reducible apply Tk.there)); done) | ((repeat (first | exact Tk.here | apply Tk.there)); done))) | apply Sb.drop)) h2)
  · -- else
    have hnm : vName f := by simpa using h1
    refine WC.seq <| WC.region <| sv (vmI rfl) <| clx (by repeat' (first | with_reducible exact Sb.all | exact Sb.nil | (apply Sb.cons; focus (first | ((repeat (first | with_reducible exact Tk.here | with_reducible apply Tk.there)); done) | ((repeat (first | exact Tk.here | apply Tk.there)); done))) | apply Sb.drop)) (v_counts) ct90 rfl fun r2 hr2 => ?_
    refine sv (vnot rfl) <| sv (vaB rfl) <| WL.nil <| WX.thenN <| ?_
    refine WC.iteb rfl (fun h2 => ?_) (fun h2 => ?_)
    · -- then
      have e : whyDrop d f n = (1, false) := by unfold whyDrop; rw [if_neg (fun h => h hnm), if_pos (by simpa using h2)]
      rw [e]
      exact WC.seq <| WC.region <| sv (vaI rfl) <| sv (vaB rfl) <| WL.nil <| WX.thenN <| WC.ret <| WX.blockR <| WX.thenR <| WX.ret2 rfl (()) (trivial) rfl (fun w h => by have h2 := hfold (Own.sp4 (by repeat' (first | exact Spl.nil | (apply Spl.cons; focus (first | ((repeat (first | with_reducible exact Tk.here | with_reducible apply Tk.there)); done) | ((repeat (first | exact Tk.here | apply Tk.there)); done))))) h); exact Sb.own (by repeat' (first | with_reducible exact Sb.all | exact Sb.nil | (apply Sb.cons; focus (first | ((repeat (first | with_reducible exact Tk.here | with_reducible apply Tk.there)); done) | ((repeat (first | exact Tk.here | apply Tk.there)); done))) | apply Sb.drop)) h2)
    · -- else
      have e : whyDrop d f n = (0, decide (d.floors f < n)) := by unfold whyDrop; rw [if_neg (fun h => h hnm), if_neg (by simpa using h2)]
      rw [e]
      exact WC.skip <| WX.blockN <| WX.thenN <| WC.seq <| WC.draws rfl (by kernel_rfl) <| qv (vmI rfl) <| qv (vmP rfl) <| qv (vnil rfl) <| qv (vfldp fl86f1 rfl) <| qv (vldc pl84 rfl) <| qv (vmT rfl) <| qv (vlk1S Tryz.underlying84 Tryz.underlying9 zt3 rfl rfl trivial hfb) <| qv (vgt rfl rfl) <| qv (vaI rfl) <| qv (vaB rfl) <| WQ.nil <| WX.thenN <| WC.ret <| WX.ret2 rfl (()) (trivial) rfl (fun w h => by have h2 := hfold (Own.sp4 (by repeat' (first | exact Spl.nil | (apply Spl.cons; focus (first | ((repeat (first | with_reducible exact Tk.here | with_reducible apply Tk.there)); done) | ((repeat (first | exact Tk.here | apply Tk.there)); done))))) h); exact Sb.own (by repeat' (first | with_reducible exact Sb.all | exact Sb.nil | (apply Sb.cons; focus (first | ((repeat (first | with_reducible exact Tk.here | with_reducible apply Tk.there)); done) | ((repeat (first | exact Tk.here | apply Tk.there)); done))) | apply Sb.drop)) h2)
end Go.Proofs.YthljpljbpbkkcaaGreatDoor
end
section
set_option linter.unusedVariables false
set_option linter.unusedSimpArgs false
set_option maxRecDepth 4000
namespace Go.Proofs.YthljpljbpbkkcaaGreatDoor
open Go.Sl Go.RowKit Go.Pack Go.Vault

def putF : List (ByteArray × Int) → ByteArray → Int → List (ByteArray × Int)
  | [], f, n => [(f, n)]
  | x :: l, f, n => if x.1 = f then (f, n) :: l else x :: putF l f n
theorem lookF_put : ∀ (l : List (ByteArray × Int)) (f : ByteArray) (n : Int) (g : ByteArray), lookF (putF l f n) g = if g = f then n else lookF l g
  | [], f, n, g => by
    unfold putF lookF lookF
    by_cases h : f = g
    · rw [if_pos h, if_pos h.symm]
    · rw [if_neg h, if_neg fun e => h e.symm]
  | x :: l, f, n, g => by
    unfold putF
    by_cases hx : x.1 = f
    · rw [if_pos hx]
      unfold lookF
      by_cases h : f = g
      · rw [if_pos h, if_pos h.symm]
      · rw [if_neg h, if_neg fun e => h e.symm, if_neg (by rw [hx]; exact h)]
    · rw [if_neg hx]
      unfold lookF
      rw [lookF_put l f n g]
      by_cases h : x.1 = g
      · rw [if_pos h, if_pos h, if_neg (by rw [← h]; exact hx)]
      · rw [if_neg h, if_neg h]
theorem putF_fst : ∀ (l : List (ByteArray × Int)) (f : ByteArray) (n : Int), ∀ x ∈ putF l f n, x.1 = f ∨ ∃ y ∈ l, y.1 = x.1
  | [], f, n, x, hx => by simp only [putF, List.mem_singleton] at hx; rw [hx]; exact .inl rfl
  | y :: l, f, n, x, hx => by
    unfold putF at hx
    split at hx
    · rcases List.mem_cons.1 hx with rfl | hx
      · exact .inl rfl
      · exact .inr ⟨x, List.mem_cons_of_mem _ hx, rfl⟩
    · rcases List.mem_cons.1 hx with rfl | hx
      · exact .inr ⟨x, List.mem_cons_self, rfl⟩
      · rcases putF_fst l f n x hx with h | ⟨z, hz, h⟩
        · exact .inl h
        · exact .inr ⟨z, List.mem_cons_of_mem _ hz, h⟩
theorem putF_nd : ∀ {l : List (ByteArray × Int)} {f : ByteArray} {n : Int}, (l.map Prod.fst).Nodup → ((putF l f n).map Prod.fst).Nodup
  | [], f, n, h => by simp [putF]
  | y :: l, f, n, h => by
    simp only [List.map_cons, List.nodup_cons] at h
    unfold putF
    split
    · rename_i he
      simp only [List.map_cons, List.nodup_cons]
      exact ⟨by rw [← he]; exact h.1, h.2⟩
    · rename_i he
      simp only [List.map_cons, List.nodup_cons]
      refine ⟨fun hm => ?_, putF_nd h.2⟩
      obtain ⟨x, hx, hxy⟩ := List.mem_map.1 hm
      rcases putF_fst l f n x hx with h1 | ⟨z, hz, h1⟩
      · exact he (hxy.symm.trans h1)
      · exact h.1 (List.mem_map.2 ⟨z, hz, h1.trans hxy⟩)
theorem pute_cons {x : Value × Value} {ps ps' : List (Value × Value)} {k v : Value} (hx : x.1 ≠ k) (h : PutE ps k v ps') : PutE (x :: ps) k v (x :: ps') := by
  cases h with
  | old j u h => exact .old (j + 1) u (by simpa using h)
  | new h => exact .new (fun p hp => by rcases List.mem_cons.1 hp with rfl | hp; exact hx; exact h p hp)
theorem fents_put : ∀ (l : List (ByteArray × Int)) (f : ByteArray) (n : Int), PutE (fents l) (.string f) (.int .i64 n) (fents (putF l f n))
  | [], f, n => .new (fun p hp => by simp [fents] at hp)
  | x :: l, f, n => by
    unfold putF
    by_cases he : x.1 = f
    · rw [if_pos he]
      exact .old 0 (.int .i64 x.2) (by simp [fents, he])
    · rw [if_neg he]
      exact pute_cons (fun e => by cases e; exact he rfl) (fents_put l f n)
def todo (vk : List PK) (l : List (PK × Sla UInt8)) : Nat := (l.filter (fun x => decide (x.1 ∉ vk))).length
theorem todo_le {vk : List PK} {k : PK} : ∀ {l : List (PK × Sla UInt8)}, todo (k :: vk) l ≤ todo vk l
  | [] => Nat.le_refl _
  | y :: l => by
    have ih := todo_le (vk := vk) (k := k) (l := l)
    unfold todo at ih ⊢
    simp only [List.filter_cons]
    by_cases h1 : y.1 ∉ vk
    · by_cases h2 : y.1 ∉ k :: vk
      · simp only [h1, h2, decide_true, if_true, not_false_eq_true, List.length_cons]; omega
      · simp only [h1, h2, decide_true, decide_false, if_true, not_false_eq_true, List.length_cons, Bool.false_eq_true, if_false]; omega
    · have h2 : ¬ y.1 ∉ k :: vk := fun h => h1 fun h3 => h (List.mem_cons_of_mem _ h3)
      simp only [h1, h2, decide_false, Bool.false_eq_true, if_false]; omega
theorem todo_visit {vk : List PK} : ∀ {l : List (PK × Sla UInt8)} {x : PK × Sla UInt8}, x ∈ l → x.1 ∉ vk → todo (x.1 :: vk) l < todo vk l
  | [], x, h, _ => by cases h
  | y :: l, x, h, hv => by
    have hle := todo_le (vk := vk) (k := x.1) (l := l)
    unfold todo at hle ⊢
    simp only [List.filter_cons]
    by_cases h1 : y.1 = x.1
    · have h2 : ¬ y.1 ∉ x.1 :: vk := fun h => h (by rw [h1]; exact List.mem_cons_self)
      have h3 : y.1 ∉ vk := by rw [h1]; exact hv
      simp only [h2, h3, decide_true, decide_false, if_true, not_false_eq_true, List.length_cons, Bool.false_eq_true, if_false]; omega
    · have hx : x ∈ l := by rcases List.mem_cons.1 h with rfl | h; exact absurd rfl h1; exact h
      have ih := todo_visit hx hv
      unfold todo at ih
      by_cases h3 : y.1 ∉ vk
      · have h2 : y.1 ∉ x.1 :: vk := fun h => by rcases List.mem_cons.1 h with h | h; exact h1 h; exact h3 h
        simp only [h2, h3, decide_true, if_true, not_false_eq_true, List.length_cons]; omega
      · have h2 : ¬ y.1 ∉ x.1 :: vk := fun h => h3 fun h4 => h (List.mem_cons_of_mem _ h4)
        simp only [h2, h3, decide_false, Bool.false_eq_true, if_false]; omega
theorem todo_erase {vk : List PK} {l : List (PK × Sla UInt8)} {j : Nat} : todo vk (l.eraseIdx j) ≤ todo vk l := ((List.eraseIdx_sublist l j).filter _).length_le
theorem rows_erase {w0 w : World} {e : TypeId} : ∀ {l : List (Sla UInt8)} {j : Nat} {A : List HProp}, Own w0 (rows e l :: A) w → Own w0 (rows e (l.eraseIdx j) :: A) w
  | [], j, A, H => H
  | y :: l, 0, A, H => H.star.tail
  | y :: l, j + 1, A, H => by
    have h1 := H.star.pk1
    exact (rows_erase (l := l) (j := j) h1).pk1.intro_star
theorem pents_erase {l : List (PK × Sla UInt8)} {j : Nat} : (pents l).eraseIdx j = pents (l.eraseIdx j) := (erase_map _ l j).symm
theorem mem_erase {α : Type} : ∀ {l : List α} {j : Nat} {x y : α}, l[j]? = some x → y ∈ l → y ≠ x → y ∈ l.eraseIdx j
  | [], _, _, _, _, h, _ => by cases h
  | z :: l, 0, x, y, hj, h, hne => by
    simp at hj; subst hj
    rcases List.mem_cons.1 h with rfl | h
    · exact absurd rfl hne
    · exact h
  | z :: l, j + 1, x, y, hj, h, hne => by
    rcases List.mem_cons.1 h with rfl | h
    · exact List.mem_cons_self
    · exact List.mem_cons_of_mem _ (mem_erase (by simpa using hj) h hne)
theorem erase_ne : ∀ {l : List (PK × Sla UInt8)} {j : Nat} {x y : PK × Sla UInt8}, (l.map Prod.fst).Nodup → l[j]? = some x → y ∈ l.eraseIdx j → y.1 ≠ x.1
  | [], _, _, _, _, h, _ => by simp at h
  | z :: l, 0, x, y, hn, hj, h => by
    simp at hj; subst hj
    simp only [List.map_cons, List.nodup_cons] at hn
    exact fun e => hn.1 (List.mem_map.2 ⟨y, h, e⟩)
  | z :: l, j + 1, x, y, hn, hj, h => by
    simp only [List.map_cons, List.nodup_cons] at hn
    rcases List.mem_cons.1 h with rfl | h
    · exact fun e => hn.1 (List.mem_map.2 ⟨x, List.mem_of_getElem? (by simpa using hj), e.symm⟩)
    · exact erase_ne hn.2 (by simpa using hj) h
/-- what is still there while numbers go -/
structure DI where
  l : List (PK × Sla UInt8)
  vk : List PK
  last : Option Value
def gone (f : ByteArray) (n : Int) (k : PK) : Prop := k.flow = f ∧ k.num < n
instance (f : ByteArray) (n : Int) (k : PK) : Decidable (gone f n k) := inferInstanceAs (Decidable (_ ∧ _))
structure DR (l0 : List (PK × Sla UInt8)) (f : ByteArray) (n : Int) (i : DI) : Prop where
  sub : i.l.Sublist l0
  all : ∀ x ∈ l0, x ∈ i.l ∨ gone f n x.1
  vis : ∀ x ∈ i.l, x.1 ∈ i.vk → ¬ gone f n x.1
theorem lookP_none {l : List (PK × Sla UInt8)} {k : PK} (h : ∀ x ∈ l, x.1 ≠ k) : lookP l k = none := by
  induction l with
  | nil => rfl
  | cons y l ih => unfold lookP; rw [if_neg (h y List.mem_cons_self), ih fun x hx => h x (List.mem_cons_of_mem _ hx)]
theorem DR.look {l0 l : List (PK × Sla UInt8)} {vk : List PK} {f : ByteArray} {n : Int} {last : Option Value} (h : DR l0 f n ⟨l, vk, last⟩) (hn : (l0.map Prod.fst).Nodup) (hall : ∀ x ∈ l, x.1 ∈ vk) (k : PK) : lookP l k = if gone f n k then none else lookP l0 k := by
  have hnl : (l.map Prod.fst).Nodup := (h.sub.map _).nodup hn
  split
  · rename_i hg
    exact lookP_none fun x hx e => h.vis x hx (hall x hx) (by rw [e]; exact hg)
  · rename_i hg
    cases hk : lookP l0 k with
    | none =>
      refine lookP_none fun x hx e => ?_
      have := lookP_mem hn (h.sub.subset hx)
      rw [e, hk] at this
      cases this
    | some b =>
      obtain ⟨j, x, hj, rfl, rfl⟩ := lookP_some hk
      rcases h.all x (List.mem_of_getElem? hj) with hx | hx
      · exact lookP_mem hnl hx
      · exact absurd hx hg
theorem v_drop {w0 : World} {A : List HProp} {v j : Nat} {down : Bool} {d : VD} {f : ByteArray} {n : Int} : Fun Tryz.prog w0 65 [.pointer (some ⟨v, 0, none⟩), .string f, .int .i64 n] (pv v j down d :: A) (Ret w0 (fun _ : Unit => True) (fun _ => .tuple #[]) (fun _ => pv v j down (dropD d f n) :: A)) := by
  refine Fun.ex (fun w h => pv_open h) ?_
  rintro ⟨mp, mf, l0, fl⟩ hi
  dsimp only [vcl]
  refine Fun.enter Tryz.func65 rfl Tryz.ntmps65 rfl ?_
  refine WC.seq <| WC.seq <| WC.region <| sv (vmP rfl) <| sv (vnil rfl) <| sv (vfldpz fl86f0 rfl) <| sv (vldc pl83 rfl) <| pm (fun _ h => Sb.own (by repeat' (first | with_reducible exact Sb.all | exact Sb.nil | (apply Sb.cons; focus (first | ((repeat (first | with_reducible exact Tk.here | with_reducible apply Tk.there)); done) | ((repeat (first | exact Tk.here | apply Tk.there)); done))) | apply Sb.drop)) h) <| rgmK Tryz.underlying83 rfl fun it2 =>?_
  refine WL.nil <| WX.thenN <| WC.block <| ?_
  refine WC.loop (ι := DI) (fun i => []) [(0, .pointer _), (1, .string _), (2, .int _ _), (11, _)] (fun i => mrk KP mp (pents i.l) it2 (i.vk.map pkv) i.last :: cel v [.map (some mp), .map (some mf), .pointer (some ⟨j, 0, none⟩), .bool down] 86 :: Sl.mp .string mf (fents fl) :: rows 5 (i.l.map Prod.snd) :: A) (fun i => DR l0 f n i) (fun i => todo i.vk i.l) (⟨l0, [], none⟩) (⟨List.Sublist.refl _, fun x hx => .inl hx, fun x _ h => by cases h⟩) trivial ⟨rfl, rfl, rfl, rfl, trivial⟩ (fun _ h => Sb.own (by repeat' (first | with_reducible exact Sb.all | exact Sb.nil | (apply Sb.cons; focus (first | ((repeat (first | with_reducible exact Tk.here | with_reducible apply Tk.there)); done) | ((repeat (first | exact Tk.here | apply Tk.there)); done))) | apply Sb.drop)) h) ?_
  rintro ⟨l, vk, last⟩ hdr ρh
  dsimp only
  refine WC.seq <| WC.region <| nxmK rfl (fun k3 v3 hk3 hv3 => ?_) (fun hall3 => ?_)
  ·
    obtain ⟨x, hx, he⟩ := List.mem_map.1 hk3
    cases he
    have hxv : x.1 ∉ vk := fun h => hv3 (List.mem_map.2 ⟨x.1, h, rfl⟩)
    have hxl0 := hdr.sub.subset hx
    refine sv (vex rfl rfl) <| WL.nil <| WX.thenN <| WC.seq <| ?_
    refine WC.tt rfl ?_
    refine WC.skip <| WX.thenN <| WC.block <| WC.seq <| WC.region <| sv (venK rfl hk3) <| sv (vex rfl rfl) <| alz (cs := [.string ByteArray.empty, .int .i64 0, .int .i64 0, .int .i64 0]) zt117 (by rfl) fun b5 => stAp sz117 rfl rfl rfl (by intro v hv; simp only [List.mem_cons, List.not_mem_nil, or_false] at hv; rcases hv with rfl | rfl | rfl | rfl <;> rfl) rfl <| WL.nil <| WX.thenN <| ?_
    refine WC.cutS [(25, .bool (decide (gone f n x.1)))] [(0, .pointer _), (1, .string _), (2, .int _ _), (6, _), (11, _)] ⟨rfl, rfl, rfl, rfl, rfl, trivial⟩ ?_ fun ρh => ?_
    · -- vault.go:66
      refine WC.region <| sv (vfldpz fl117f0 rfl) <| sv (vldc pl9 rfl) <| sv (vmT rfl) <| svs (veqs rfl rfl) (fun q1 => ?_) (fun q1 => ?_)
      ·
        exact sv (vmB rfl) <| svg rfl (vfldp fl117f1 rfl) <| svg rfl (vldc pl3 rfl) <| svg rfl (vmI rfl) <| svg rfl (vlt rfl rfl) <| sv (vpkt rfl) <| WL.nil <| WX.mid () trivial ⟨bI ⟨fun h => ⟨q1, h⟩, fun h => h.2⟩, trivial⟩ ⟨rfl, rfl, rfl, rfl, rfl, trivial⟩ (fun _ h => Sb.own (by repeat' (first | with_reducible exact Sb.all | exact Sb.nil | (apply Sb.cons; focus (first | ((repeat (first | with_reducible exact Tk.here | with_reducible apply Tk.there)); done) | ((repeat (first | exact Tk.here | apply Tk.there)); done))) | apply Sb.drop)) h)
      ·
        exact sv (vmB rfl) <| sng rfl <| sng rfl <| sng rfl <| sng rfl <| sv (vpkf rfl) <| WL.nil <| WX.mid () trivial ⟨bF (fun h => q1 h.1), trivial⟩ ⟨rfl, rfl, rfl, rfl, rfl, trivial⟩ (fun _ h => Sb.own (by repeat' (first | with_reducible exact Sb.all | exact Sb.nil | (apply Sb.cons; focus (first | ((repeat (first | with_reducible exact Tk.here | with_reducible apply Tk.there)); done) | ((repeat (first | exact Tk.here | apply Tk.there)); done))) | apply Sb.drop)) h)
    refine WC.ite rfl (fun h2 => ?_) (fun h2 => ?_)
    · -- then
      obtain ⟨jj, hjj⟩ := List.mem_iff_getElem?.1 hx
      refine WC.plan (.bar [0, 1, 2, 3, 4] 5 (.done [])) rfl (by kernel_rfl) <| WPl.barC <| dv (fun g => (vmP rfl)) <| dv (fun g => (vnil rfl)) <| dv (fun g => (vfldpz fl86f0 rfl)) <| dv (fun g => (vldc pl83 rfl)) <| dv (fun g => (vldac ag117 sz117 rfl rfl (by decide))) <| WD.eff rfl <| pm (fun _ h => (show Own w0 (mrk KP mp (pents l) it2 (pkv x.1 :: vk.map pkv) (some (pkv x.1)) :: _) _ from Own.sp1 (by repeat' (first | exact Spl.nil | (apply Spl.cons; focus (first | ((repeat (first | with_reducible exact Tk.here | with_reducible apply Tk.there)); done) | ((repeat (first | exact Tk.here | apply Tk.there)); done))))) h)) <| delK (j := jj) (k := pkv x.1) Tryz.underlying83 place_law rfl rfl (kp_ok (hi.ok x hxl0).1) (pents_at hjj) ?_
      skip
      exact WL.nil <| WX.brT <| WPl.finC <| WD.nil <| WX.blockN <| WX.again (⟨l.eraseIdx jj, x.1 :: vk, none⟩) (⟨(List.eraseIdx_sublist l jj).trans hdr.sub, fun y hy => by rcases hdr.all y hy with h | h; by_cases hyx : y.1 = x.1; exact .inr (by rw [hyx]; exact h2); exact .inl (mem_erase hjj h (fun e => hyx (by rw [e]))); exact .inr h, fun y hy hv => by have hyl := (List.eraseIdx_sublist l jj).subset hy; rcases List.mem_cons.1 hv with hv | hv; exact absurd hv (erase_ne ((hdr.sub.map _).nodup hi.nd) hjj hy); exact hdr.vis y hyl hv⟩) (Nat.lt_of_le_of_lt todo_erase (todo_visit hx hxv)) trivial ⟨rfl, rfl, rfl, rfl, trivial⟩ (fun w h => by have h2 := rows_erase (j := jj) (Own.sp1 (X1 := rows 5 (l.map Prod.snd)) (by repeat' (first | exact Spl.nil | (apply Spl.cons; focus (first | ((repeat (first | with_reducible exact Tk.here | with_reducible apply Tk.there)); done) | ((repeat (first | exact Tk.here | apply Tk.there)); done))))) h); rw [pents_erase, ← erase_map] at h2; exact Sb.own (by repeat' (first | with_reducible exact Sb.all | exact Sb.nil | (apply Sb.cons; focus (first | ((repeat (first | with_reducible exact Tk.here | with_reducible apply Tk.there)); done) | ((repeat (first | exact Tk.here | apply Tk.there)); done))) | apply Sb.drop)) h2)
    · -- else
      exact WC.skip <| WX.blockN <| WX.again (⟨l, x.1 :: vk, some (pkv x.1)⟩) (⟨hdr.sub, hdr.all, fun y hy hv => by rcases List.mem_cons.1 hv with hv | hv; rw [hv]; exact h2; exact hdr.vis y hy hv⟩) (todo_visit hx hxv) trivial ⟨rfl, rfl, rfl, rfl, trivial⟩ (fun _ h => Sb.own (by repeat' (first | with_reducible exact Sb.all | exact Sb.nil | (apply Sb.cons; focus (first | ((repeat (first | with_reducible exact Tk.here | with_reducible apply Tk.there)); done) | ((repeat (first | exact Tk.here | apply Tk.there)); done))) | apply Sb.drop)) h)
  ·
    have hall : ∀ x ∈ l, x.1 ∈ vk := fun x hx => by
      obtain ⟨k, hk, e⟩ := List.mem_map.1 (hall3 _ (List.mem_map.2 ⟨x, hx, rfl⟩))
      rw [← pkv_inj e]; exact hk
    refine sv (vex rfl rfl) <| WL.nil <| WX.thenN <| WC.seq <| ?_
    refine WC.ff rfl ?_
    refine WC.exit <| WX.thenE <| WX.thenE <| WX.blockH <| WX.thenN <| WC.region <| sv (vmP rfl) <| sv (vnil rfl) <| sv (vfldp fl86f1 rfl) <| sv (vldc pl84 rfl) <| sv (vmT rfl) <| sv (vmI rfl) <| mpup (k := .string _) (v := .int _ _) Tryz.underlying84 Tryz.underlying9 rfl rfl rfl trivial (fents_put fl f n) ?_
    exact WL.nil <| WX.end0 rfl (()) (trivial) rfl (fun w h => by have h2 := (Own.sp1 (X1 := mrk KP mp (pents l) it2 (vk.map pkv) last) (by repeat' (first | exact Spl.nil | (apply Spl.cons; focus (first | ((repeat (first | with_reducible exact Tk.here | with_reducible apply Tk.there)); done) | ((repeat (first | exact Tk.here | apply Tk.there)); done))))) h).mrk_mpk; have h3 := pv_mk (v := v) (j := j) (down := down) (d := dropD d f n) (i := ⟨mp, mf, l, putF fl f n⟩) ⟨(hdr.sub.map _).nodup hi.nd, fun k => by rw [hdr.look hi.nd hall k, hi.look]; rfl, fun x hx => hi.ok x (hdr.sub.subset hx), putF_nd hi.ndf, fun g => by rw [lookF_put, hi.floor]; rfl⟩ (Own.sp4 (by repeat' (first | exact Spl.nil | (apply Spl.cons; focus (first | ((repeat (first | with_reducible exact Tk.here | with_reducible apply Tk.there)); done) | ((repeat (first | exact Tk.here | apply Tk.there)); done))))) h2); exact Sb.own (by repeat' (first | with_reducible exact Sb.all | exact Sb.nil | (apply Sb.cons; focus (first | ((repeat (first | with_reducible exact Tk.here | with_reducible apply Tk.there)); done) | ((repeat (first | exact Tk.here | apply Tk.there)); done))) | apply Sb.drop)) h3)
end Go.Proofs.YthljpljbpbkkcaaGreatDoor
end
section
set_option linter.unusedVariables false
set_option linter.unusedSimpArgs false
namespace Go.Journal
open Go.Sl Go.Pack

def le4 (n : Nat) : List UInt8 := [UInt8.ofNat n, UInt8.ofNat (n / 256), UInt8.ofNat (n / 65536), UInt8.ofNat (n / 16777216)]
def num4 (b : List UInt8) : Nat := (b.getD 0 0).toNat + 256 * (b.getD 1 0).toNat + 65536 * (b.getD 2 0).toNat + 16777216 * (b.getD 3 0).toNat
theorem num4_le4 {n : Nat} (h : n < 4294967296) (r : List UInt8) : num4 (le4 n ++ r) = n := by
  simp only [num4, le4, List.cons_append, List.nil_append, List.getD_cons_zero, List.getD_cons_succ, UInt8.toNat_ofNat']
  omega
theorem num4_lt (b : List UInt8) : num4 b < 4294967296 := by
  have h : ∀ i : Nat, (b.getD i 0).toNat < 256 := fun i => (b.getD i 0).toNat_lt
  have h0 := h 0; have h1 := h 1; have h2 := h 2; have h3 := h 3
  unfold num4
  omega
def frameB (rec : List UInt8) : List UInt8 := le4 rec.length ++ le4 (sum (le4 rec.length ++ rec)) ++ rec
/-- the length of the record with which bytes begin -/
def nextB (b : List UInt8) : Option Nat :=
  if b.length < 8 then none else
  if 1048576 < num4 b ∨ b.length - 8 < num4 b then none else
  if sum (b.take 4 ++ (b.drop 8).take (num4 b)) ≠ num4 (b.drop 4) then none else some (num4 b)
theorem nextB_le {b : List UInt8} {n : Nat} (h : nextB b = some n) : 8 + n ≤ b.length ∧ n ≤ 1048576 := by
  unfold nextB at h
  split at h
  · cases h
  · split at h
    · cases h
    · split at h
      · cases h
      · cases h; omega
/-- records one after the other, and what is left -/
def recsB (b : List UInt8) : List (List UInt8) × List UInt8 :=
  match h : nextB b with
  | none => ([], b)
  | some n => let r := recsB (b.drop (8 + n)); ((b.drop 8).take n :: r.1, r.2)
termination_by b.length
decreasing_by
  have := nextB_le h
  rw [List.length_drop]
  omega
theorem recsB_none {b : List UInt8} (h : nextB b = none) : recsB b = ([], b) := by
  rw [recsB]
  split
  · rfl
  · rename_i h2; rw [h] at h2; cases h2
theorem recsB_some {b : List UInt8} {n : Nat} (h : nextB b = some n) : recsB b = ((b.drop 8).take n :: (recsB (b.drop (8 + n))).1, (recsB (b.drop (8 + n))).2) := by
  rw [recsB]
  split
  · rename_i h2; rw [h] at h2; cases h2
  · rename_i h2; rw [h] at h2; cases h2; rfl
end Go.Journal
end
section
set_option linter.unusedVariables false
set_option linter.unusedSimpArgs false
namespace Go.Journal
open Go.Sl Go.Pack

theorem shr_u32 (z : Nat) {k : Nat} (hk : k ≤ 32) : bShr .u32 (z : Int) (k : Int) = ((z / 2 ^ k : Nat) : Int) := by
  unfold bShr
  have h : min ((k : Int)).toNat IntKind.u32.bits = k := by
    have : IntKind.u32.bits = 32 := rfl
    rw [this]; omega
  rw [h, Int.fdiv_eq_ediv_of_nonneg _ (by exact Int.le_of_lt (Int.pow_pos (by decide)))]
  simp
theorem wrap8 (z : Nat) : Value.int .u8 (IntKind.u8.wrap (z : Int)) = u8v (UInt8.ofNat z) := by
  have h1 : IntKind.u8.wrap (z : Int) = ((z % 256 : Nat) : Int) := by rw [IntKind.wrap_u8]; omega
  rw [h1]
  unfold u8v
  rw [UInt8.toNat_ofNat']
theorem low_vals (n : Nat) : [Value.int .u8 (IntKind.u8.wrap (n : Int)), .int .u8 (IntKind.u8.wrap (bShr .u32 (n : Int) 8)), .int .u8 (IntKind.u8.wrap (bShr .u32 (n : Int) 16)), .int .u8 (IntKind.u8.wrap (bShr .u32 (n : Int) 24))] = u8s (le4 n) := by
  have h8 := shr_u32 n (k := 8) (by omega)
  have h16 := shr_u32 n (k := 16) (by omega)
  have h24 := shr_u32 n (k := 24) (by omega)
  have e8 : ((8 : Nat) : Int) = 8 := rfl
  have e16 : ((16 : Nat) : Int) = 16 := rfl
  have e24 : ((24 : Nat) : Int) = 24 := rfl
  rw [e8] at h8; rw [e16] at h16; rw [e24] at h24
  rw [h8, h16, h24, wrap8, wrap8, wrap8, wrap8]
  rfl
theorem cel_eq {w0 w : World} {R : List HProp} {b : Nat} {vs vs' : List Value} {e : TypeId} (h : vs = vs') (H : Own w0 (cel b vs e :: R) w) : Own w0 (cel b vs' e :: R) w := h ▸ H
theorem or_add {a b k : Nat} (ha : a < 2 ^ k) : a ||| (b * 2 ^ k) = a + b * 2 ^ k := by
  rw [Nat.mul_comm b, Nat.or_comm, ← Nat.two_pow_add_eq_or_of_lt ha b, Nat.add_comm]
theorem or_u32 {a b k : Nat} (ha : a < 2 ^ k) (hb : a + b * 2 ^ k < 4294967296) : bOr .u32 (a : Int) ((b * 2 ^ k : Nat) : Int) = ((a + b * 2 ^ k : Nat) : Int) := by
  rw [bOr_u rfl, ofInt_natCast, ofInt_natCast]
  show (((BitVec.ofNat 32 a ||| BitVec.ofNat 32 (b * 2 ^ k)).toNat : Nat) : Int) = _
  have h1 : a < 4294967296 := by omega
  have h2 : b * 2 ^ k < 4294967296 := by omega
  rw [BitVec.toNat_or, BitVec.toNat_ofNat, BitVec.toNat_ofNat, Nat.mod_eq_of_lt h1, Nat.mod_eq_of_lt h2, or_add ha]
theorem shl_u32 {b : Nat} (hb : b < 256) {k : Nat} (hk : k ≤ 24) : bShl .u32 (IntKind.u32.wrap (b : Int)) (k : Int) = ((b * 2 ^ k : Nat) : Int) := by
  have h1 : IntKind.u32.wrap (b : Int) = (b : Int) := by rw [IntKind.wrap_u32]; omega
  have h2 : b * 2 ^ k < 4294967296 := by
    have : 2 ^ k ≤ 2 ^ 24 := Nat.pow_le_pow_right (by omega) hk
    have h3 : b * 2 ^ k ≤ 255 * 2 ^ 24 := Nat.mul_le_mul (by omega) this
    omega
  rw [h1]
  unfold bShl
  have h : min ((k : Int)).toNat IntKind.u32.bits = k := by
    have : IntKind.u32.bits = 32 := rfl
    rw [this]; omega
  rw [h]
  have h3 : (b : Int) * 2 ^ k = ((b * 2 ^ k : Nat) : Int) := by simp
  rw [h3, IntKind.wrap_u32]
  omega
theorem number_raw (b : List UInt8) : bOr .u32 (bOr .u32 (bOr .u32 (IntKind.u32.wrap ((b.getD 0 0).toNat : Int)) (bShl .u32 (IntKind.u32.wrap ((b.getD 1 0).toNat : Int)) 8)) (bShl .u32 (IntKind.u32.wrap ((b.getD 2 0).toNat : Int)) 16)) (bShl .u32 (IntKind.u32.wrap ((b.getD 3 0).toNat : Int)) 24) = (num4 b : Int) := by
  have h : ∀ i : Nat, (b.getD i 0).toNat < 256 := fun i => (b.getD i 0).toNat_lt
  have h0 := h 0; have h1 := h 1; have h2 := h 2; have h3 := h 3
  have e1 := shl_u32 h1 (k := 8) (by omega)
  have e2 := shl_u32 h2 (k := 16) (by omega)
  have e3 := shl_u32 h3 (k := 24) (by omega)
  have e8 : ((8 : Nat) : Int) = 8 := rfl
  have e16 : ((16 : Nat) : Int) = 16 := rfl
  have e24 : ((24 : Nat) : Int) = 24 := rfl
  rw [e8] at e1; rw [e16] at e2; rw [e24] at e3
  have e0 : IntKind.u32.wrap ((b.getD 0 0).toNat : Int) = ((b.getD 0 0).toNat : Int) := by rw [IntKind.wrap_u32]; omega
  rw [e0, e1, e2, e3, or_u32 (by omega) (by omega), or_u32 (by omega) (by omega), or_u32 (by omega) (by omega)]
  unfold num4
  congr 1
  omega
end Go.Journal
end
section
set_option linter.unusedVariables false
set_option linter.unusedSimpArgs false
set_option maxRecDepth 4000
namespace Go.Proofs.YthljpljbpbkkcaaGreatDoor
open Go.Sl Go.Pack Go.RowKit

theorem Own.cel_row {w0 w : World} {g : Nat} {cur vs : List Value} {c s : Nat} {e : TypeId} {R : List HProp} (hp : vs <+: cur) (hl : cur.length = c * s) (hc : c ≤ maxLen) (H : Own w0 (cel g cur e :: R) w) : Own w0 (row (some ⟨g, 0, none⟩) c s e vs :: R) w := H.intro_row hp hl hc
theorem madeU8 (k : Nat) : (madeCells (Value.int .u8 0).cells k).toList = List.replicate k (.int .u8 0) := made_rep rfl k

theorem pack_num {w0 : World} {A : List HProp} {base : Option Addr} {c : Nat} {bs : List UInt8} {x : Int} [hR : Reads w0 A base (u8s bs)] (hb : bs.length ≤ 140737488351232) (hx : -9223372036854775808 ≤ x ∧ x ≤ 9223372036854775807) :
    Fun Tryz.prog w0 71 [.slice base bs.length c, .int .i64 x] A
      (Ret w0 (fun i : Option Addr × Nat => bs.length + (num x).length ≤ i.2) (fun i => .slice i.1 (bs.length + (num x).length) i.2) (fun i => row i.1 i.2 1 5 (u8s (bs ++ num x)) :: A)) := by
  have hz := zig_lt hx
  have hn := leb_len10 hz
  refine Fun.enter Tryz.func71 rfl Tryz.ntmps71 rfl ?_
  refine WC.seq <| WC.region <| sv (vaS rfl) <| WL.nil <| WX.thenN <| WC.seq <| WC.region <| sv (vmI rfl) <| sv (vcv is3 Tryz.underlying139 rfl) <| sv (vshl rfl rfl (by omega)) <| sv (vmI rfl) <| sv (vshr rfl rfl (by omega)) <| sv (vcv is3 Tryz.underlying139 rfl) <| sv (vxor rfl rfl) <| sv (vaI rfl) <| WL.nil <| WX.thenN <| ?_
  refine WC.seq <| WC.region <| sv (vmS rfl) <| sv (vlen Tryz.underlying23 rfl) <| sv (vmS rfl) <| sv (vlen Tryz.underlying23 rfl) <| sv (vadd rfl rfl (by omega)) <| mk Tryz.underlying23 zt5 rfl rfl (by omega) (by omega) (by omega) (by omega) fun g => sv (vaS rfl) <| WL.nil <| WX.thenN <| ?_
  have hc1 : ((bs.length : Int) + 10).toNat * 1 = bs.length + 10 := by omega
  rw [madeU8, hc1]
  refine WC.seq <| WC.region <| sv (vmS rfl) <| sv (vmS rfl) <| cp sz5 Tryz.underlying23 rfl rfl (reads (vs := u8s bs)) (by simp) (u8s_one bs) (by simp) <| WL.nil <| WX.thenN <| WC.seq <| WC.block <| ?_
  have hp : u8s bs <+: splice (List.replicate (bs.length + 10) (.int .u8 0)) 0 (u8s bs) := by simp [splice]
  have hl : (splice (List.replicate (bs.length + 10) (Value.int .u8 0)) 0 (u8s bs)).length = (bs.length + 10) * 1 := by rw [splice_length (by simp)]; simp
  refine WC.loop (ι := Nat × List UInt8 × Option Addr × Nat) (fun i => [(5, .int .u64 i.1), (6, .slice i.2.2.1 (bs.length + i.2.1.length) i.2.2.2)]) [] (fun i => row i.2.2.1 i.2.2.2 1 5 (u8s (bs ++ i.2.1)) :: A) (fun i => i.2.1 ++ leb i.1 = leb (zig x)) (fun i => i.1) (zig x, [], some ⟨g, 0, none⟩, bs.length + 10) rfl ⟨congrArg _ (zig_raw hx), rfl, trivial⟩ trivial (fun w h => ?_) ?_
  · simp only [List.append_nil]; exact Own.cel_row hp hl (by simp only [maxLen]; omega) h
  rintro ⟨z, out, base', c'⟩ hi ρh
  dsimp only at hi ⊢
  have hlen : out.length + (leb z).length ≤ 10 := by rw [← List.length_append, hi]; exact hn
  have hpos := leb_pos z
  refine WC.seq <| WC.seq <| WC.region <| sv (vmI rfl) <| sv (vgt rfl rfl) <| WL.nil <| WX.thenN <| ?_
  refine WC.ite rfl (fun h1 => ?_) (fun h1 => ?_)
  · -- then
    have h2 : ¬ z < 128 := by omega
    have h3 := leb_ge h2
    refine WC.skip <| WX.thenN <| WC.seq <| WC.block <| WC.region <| sv (vmS rfl) <| sv (vmI rfl) <| sv (vcv is139 Tryz.underlying5 rfl) <| sv (vor rfl rfl) <| ap1 (v := .int _ _) Tryz.underlying23 zt5 rfl (fun _ => rfl) (fun _ => rfl) rfl rfl rfl (by simp) (by simp only [maxLen]; omega) (by omega) fun _ base4 c4 hc4 => sv (vaS rfl) <| WL.nil <| WX.blockN <| WX.thenN <| WC.region <| sv (vmI rfl) <| sv (vshr rfl rfl (by omega)) <| sv (vaI rfl) <| WL.nil <| ?_
    refine WX.again (z / 128, out ++ [UInt8.ofNat (z % 128 + 128)], base4, c4) ?_ ?_ ⟨congrArg _ (shr7 z), ?_, trivial⟩ trivial (fun w h => ?_)
    · simp only; rw [List.append_assoc, List.singleton_append, ← h3]; exact hi
    · simp only; omega
    · simp only [List.length_append, List.length_cons, List.length_nil]; rfl
    · rw [byte_more] at h
      have e : u8s (bs ++ out) ++ [u8v (UInt8.ofNat (z % 128 + 128))] = u8s (bs ++ (out ++ [UInt8.ofNat (z % 128 + 128)])) := by simp [u8s]
      rw [e] at h
      exact h
  · -- else
    have h2 : z < 128 := by omega
    have h3 := leb_lt h2
    refine WC.exit <| WX.thenE <| WX.thenE <| WX.blockH <| WX.thenN <| WC.seq <| WC.region <| sv (vmS rfl) <| sv (vmI rfl) <| sv (vcv is139 Tryz.underlying5 rfl) <| ap1 (v := .int _ _) Tryz.underlying23 zt5 rfl (fun _ => rfl) (fun _ => rfl) rfl rfl rfl (by simp) (by simp only [maxLen]; omega) (by omega) fun _ base3 c3 hc3 => sv (vaS rfl) <| WL.nil <| WX.thenN <| WC.ret <| ?_
    refine WX.ret1 rfl (base3, c3) (by unfold num; rw [← hi, h3, List.length_append, List.length_singleton]; dsimp only; omega) ?_ (fun w h => ?_)
    · unfold num; rw [← hi, h3, List.length_append]; rfl
    · rw [byte_last z h2] at h
      have e : u8s (bs ++ out) ++ [u8v (UInt8.ofNat z)] = u8s (bs ++ num x) := by unfold num; rw [← hi, h3]; simp [u8s]
      rw [e] at h
      exact h

theorem pack_text {w0 : World} {A : List HProp} {base : Option Addr} {c : Nat} {bs : List UInt8} {s : ByteArray} [hR : Reads w0 A base (u8s bs)] (hb : bs.length ≤ 140737488351232) (hs : bs.length + s.size ≤ 140737488351232) :
    Fun Tryz.prog w0 72 [.slice base bs.length c, .string s] A
      (Ret w0 (fun i : Option Addr × Nat => bs.length + (text s.data.toList).length ≤ i.2) (fun i => .slice i.1 (bs.length + (text s.data.toList).length) i.2) (fun i => row i.1 i.2 1 5 (u8s (bs ++ text s.data.toList)) :: A)) := by
  have hx : -9223372036854775808 ≤ (s.size : Int) ∧ (s.size : Int) ≤ 9223372036854775807 := by omega
  have hn := num_len hx
  have hz : s.data.toList.length = s.size := by simp
  refine Fun.enter Tryz.func72 rfl Tryz.ntmps72 rfl ?_
  refine WC.seq <| WC.region <| sv (vaS rfl) <| WL.nil <| WX.thenN <| WC.seq <| WC.region <| sv (vmS rfl) <| sv (vmT rfl) <| sv (vlens Tryz.underlying9 rfl) <| cl (pack_num hb hx) ct71 rfl fun r _ => sv (vmT rfl) <| aps Tryz.underlying23 (.inl Tryz.underlying9) zt5 rfl rfl rfl (by simp) (by simp only [maxLen]; omega) (by omega) fun base' c' hc' => sv (vaS rfl) <| WL.nil <| WX.thenN <| WC.ret <| ?_
  refine WX.ret1 rfl (base', c') (by unfold text; rw [List.length_append, hz]; dsimp only; omega) ?_ (fun w h => ?_)
  · unfold text; rw [List.length_append, hz, ← Nat.add_assoc]; rfl
  · have e : u8s (bs ++ num (s.size : Int)) ++ u8s s.data.toList = u8s (bs ++ text s.data.toList) := by unfold text; rw [hz]; simp [u8s]
    rw [e] at h
    exact h

theorem pack_sum {w0 : World} {A : List HProp} {base : Option Addr} {c : Nat} {bs : List UInt8} [hR : Reads w0 A base (u8s bs)] (hb : bs.length ≤ 140737488355328) :
    Fun Tryz.prog w0 85 [.slice base bs.length c] A (Ret w0 (fun _ : Unit => True) (fun _ => .int .u32 (sum bs)) (fun _ => A)) := by
  refine Fun.enter Tryz.func85 rfl Tryz.ntmps85 rfl ?_
  refine WC.seq <| WC.region <| sv (vaI rfl) <| WL.nil <| WX.thenN <| WC.seq <| WC.region <| sv (vaI rfl) <| WL.nil <| WX.thenN <| WC.seq <| WC.seq <| WC.region <| sv (vmS rfl) <| sv (vlen Tryz.underlying23 rfl) <| sv (vmI rfl) <| WL.nil <| WX.thenN <| WC.block <| ?_
  refine WC.loop (ι := Nat) (fun i => [(3, .int .u32 (crc (BitVec.allOnes 32) (bs.take i)).toNat), (8, .int .i64 i)]) [(6, .slice _ _ _), (7, .int _ _)] (fun i => A) (fun i => i ≤ bs.length) (fun i => bs.length - i) 0 (Nat.zero_le _) ⟨iv (by simp [crc]), rfl, trivial⟩ ⟨rfl, rfl, trivial⟩ (fun _ h => h) ?_
  intro i hi ρh
  refine WC.seq <| WC.region <| sv (vlt rfl rfl) <| WL.nil <| WX.thenN <| WC.seq <| ?_
  refine WC.ite rfl (fun h1 => ?_) (fun h1 => ?_)
  · -- then
    have h1' : i < bs.length := by omega
    refine WC.skip <| WX.thenN <| WC.seq <| WC.block <| WC.seq <| WC.region <| sv (vixb Tryz.underlying23 sz5 rfl rfl (by omega) (by omega) (by omega)) <| sv (vldb pl5 rfl h1') <| sv (vaI rfl) <| WL.nil <| WX.thenN <| WC.seq <| WC.region <| sv (vmI rfl) <| sv (vmI rfl) <| sv (vcv is5 Tryz.underlying70 rfl) <| sv (vxor rfl rfl) <| sv (vaI rfl) <| WL.nil <| WX.thenN <| WC.seq <| WC.region <| sv (vmI rfl) <| WL.nil <| WX.thenN <| WC.block <| ?_
    refine WC.loop (ι := Nat) (fun k => [(3, .int .u32 (gsteps k (crc (BitVec.allOnes 32) (bs.take i) ^^^ BitVec.ofNat 32 bs[i].toNat)).toNat), (16, .int .i64 k)]) [(6, .slice _ _ _), (7, .int _ _), (8, .int _ _)] (fun _ => A) (fun k => k ≤ 8) (fun k => 8 - k) 0 (by omega) ⟨iv (xor_byte _ _), rfl, trivial⟩ ⟨rfl, rfl, rfl, trivial⟩ (fun _ h => h) ?_
    intro k hk ρh2
    refine WC.seq <| WC.region <| sv (vlt rfl rfl) <| WL.nil <| WX.thenN <| WC.seq <| ?_
    refine WC.ite rfl (fun h2 => ?_) (fun h2 => ?_)
    · -- then
      exact WC.skip <| WX.thenN <| WC.seq <| WC.block <| WC.region <| sv (vmI rfl) <| sv (vshr rfl rfl (by omega)) <| sv (vmI rfl) <| sv (vand rfl rfl) <| sv (vneg rfl) <| sv (vand rfl rfl) <| sv (vxor rfl rfl) <| sv (vaI rfl) <| WL.nil <| WX.blockN <| WX.thenN <| WC.region <| sv (vadd rfl rfl (by omega)) <| sv (vmI rfl) <| WL.nil <| WX.again (k + 1) (by omega) (by omega) ⟨iv (by rw [gsteps_succ]; exact step_raw _), rfl, trivial⟩ ⟨rfl, rfl, rfl, trivial⟩ (fun _ h => h)
    · -- else
      have hk8 : k = 8 := by omega
      subst hk8
      exact WC.exit <| WX.thenE <| WX.thenE <| WX.blockH <| WX.blockN <| WX.thenN <| WC.region <| sv (vadd rfl rfl (by omega)) <| sv (vmI rfl) <| WL.nil <| WX.again (i + 1) (by omega) (by omega) ⟨iv (by rw [List.take_succ_eq_append_getElem h1', crc_snoc]; rfl), rfl, trivial⟩ ⟨rfl, rfl, trivial⟩ (fun _ h => h)
  · -- else
    have hi' : i = bs.length := by omega
    subst hi'
    exact WC.exit <| WX.thenE <| WX.thenE <| WX.blockH <| WX.thenN <| WC.seq <| WC.region <| sv (vmI rfl) <| sv (vcom rfl) <| sv (vaI rfl) <| WL.nil <| WX.thenN <| WC.ret <| WX.ret1 rfl () trivial (iv (by rw [List.take_length]; exact com_raw _)) (fun _ h => h)
end Go.Proofs.YthljpljbpbkkcaaGreatDoor
end
section
set_option linter.unusedVariables false
set_option linter.unusedSimpArgs false
set_option maxRecDepth 4000
namespace Go.Proofs.YthljpljbpbkkcaaGreatDoor
open Go.Sl Go.RowKit

/-- a byte that a name may hold -/
def okByte (c : UInt8) : Prop := (97 ≤ c.toNat ∧ c.toNat ≤ 122) ∨ (48 ≤ c.toNat ∧ c.toNat ≤ 57) ∨ c.toNat = 46 ∨ c.toNat = 45
instance (c : UInt8) : Decidable (okByte c) := by unfold okByte; infer_instance
def okName (s : ByteArray) : Prop := (∀ c ∈ s.data.toList, okByte c) ∧ s.size ≠ 0 ∧ s.size ≤ 16
instance (s : ByteArray) : Decidable (okName s) := by unfold okName; infer_instance
theorem size_ne {s : ByteArray} : s ≠ ByteArray.empty ↔ s.size ≠ 0 := by
  constructor
  · intro h h0
    apply h
    obtain ⟨⟨l⟩⟩ := s
    have : l = [] := List.eq_nil_of_length_eq_zero (by simpa [ByteArray.size] using h0)
    subst this; rfl
  · rintro h rfl; exact h rfl
theorem u8s_getD {bs : List UInt8} {i : Nat} (h : i < bs.length) : (u8s bs)[((i : Int)).toNat]? = some (u8v (bs.getD i 0)) := by
  have : ((i : Int)).toNat = i := by omega
  rw [this, u8s_at h, List.getD_eq_getElem?_getD, List.getElem?_eq_getElem h]; rfl
theorem disk_named {w0 : World} {A : List HProp} {s : ByteArray} (hs : s.size ≤ 140737488351232) :
    Fun Tryz.prog w0 30 [.string s] A (Ret w0 (fun _ : Unit => True) (fun _ => .bool (decide (okName s))) (fun _ => A)) := by
  refine Fun.enter Tryz.func30 rfl Tryz.ntmps30 rfl ?_
  refine WC.seq <| WC.region <| sv (vaB rfl) <| WL.nil <| WX.thenN <| WC.seq <| WC.seq <| WC.region <| sv (vmT rfl) <| cvs Tryz.underlying9 Tryz.underlying23 Tryz.underlying5 rfl (by simp only [maxLen]; omega) fun b1 c1 hc1 =>sv (vlen Tryz.underlying23 rfl) <| sv (vmI rfl) <| WL.nil <| WX.thenN <| WC.block <| ?_
  refine WC.loop (ι := Nat) (fun i => [(8, .int .i64 i)]) [(0, .string _), (6, .slice _ _ _), (7, .int _ _)] (fun i => row (some ⟨b1, 0, none⟩) c1 1 5 (u8s s.data.toList) :: A) (fun i => i ≤ s.size ∧ ∀ j, j < i → okByte (s.data.toList.getD j 0)) (fun i => s.size - i) (0) (⟨Nat.zero_le _, fun j h => by omega⟩) ⟨rfl, trivial⟩ ⟨rfl, rfl, rfl, trivial⟩ (fun _ h => h) ?_
  rintro k ⟨hk, hj⟩ ρh
  have hsz : s.data.toList.length = s.size := rfl
  refine WC.seq <| WC.region <| sv (vlt rfl rfl) <| WL.nil <| WX.thenN <| WC.seq <| ?_
  refine WC.ite rfl (fun h1 => ?_) (fun h1 => ?_)
  · -- then
    refine WC.skip <| WX.thenN <| WC.seq <| WC.block <| WC.seq <| WC.region <| sv (vixb Tryz.underlying23 sz5 rfl rfl (by omega) (by omega) (by omega)) <| sv (vldr pl5 rfl (u8s_getD (by omega))) <| sv (vaI rfl) <| WL.nil <| WX.thenN <| ?_
    refine WC.cut0 [(33, .bool (decide (¬ okByte (s.data.toList.getD k 0))))] [(0, .string _), (6, .slice _ _ _), (7, .int _ _), (8, .int _ _)] (row (some ⟨b1, 0, none⟩) c1 1 5 (u8s s.data.toList) :: A) ⟨rfl, rfl, rfl, rfl, trivial⟩ ?_ fun ρh => ?_
    · -- disk.go:32
      refine WC.region <| sv (vmI rfl) <| svs (vlt rfl rfl) (fun q1 => ?_) (fun q1 => ?_)
      ·
        refine sv (vmB rfl) <| sng rfl <| sng rfl <| sv (vpkt rfl) <| sv (vmB rfl) <| svg rfl (vmI rfl) <| svsg rfl (vlt rfl rfl) (fun q2 => ?_) (fun q2 => ?_)
        ·
          refine svg rfl (vmB rfl) <| sng rfl <| sng rfl <| svg rfl (vpkt rfl) <| sv (vpkt rfl) <| sv (vmB rfl) <| svg rfl (vmI rfl) <| svsg rfl (vne rfl rfl) (fun q3 => ?_) (fun q3 => ?_)
          ·
            exact sv (vpkt rfl) <| sv (vmB rfl) <| svg rfl (vmI rfl) <| svg rfl (vne rfl rfl) <| sv (vpkt rfl) <| WL.nil <| WX.mid () trivial ⟨bI (by unfold okByte; omega), trivial⟩ ⟨rfl, rfl, rfl, rfl, trivial⟩ (fun _ h => h)
          ·
            exact sv (vpkt rfl) <| sv (vmB rfl) <| sng rfl <| sng rfl <| sv (vpkf rfl) <| WL.nil <| WX.mid () trivial ⟨bF (by unfold okByte; omega), trivial⟩ ⟨rfl, rfl, rfl, rfl, trivial⟩ (fun _ h => h)
        ·
          refine svg rfl (vmB rfl) <| svg rfl (vmI rfl) <| svsg rfl (vgt rfl rfl) (fun q4 => ?_) (fun q4 => ?_)
          ·
            refine svg rfl (vpkf rfl) <| sv (vpkt rfl) <| sv (vmB rfl) <| svg rfl (vmI rfl) <| svsg rfl (vne rfl rfl) (fun q5 => ?_) (fun q5 => ?_)
            ·
              exact sv (vpkt rfl) <| sv (vmB rfl) <| svg rfl (vmI rfl) <| svg rfl (vne rfl rfl) <| sv (vpkt rfl) <| WL.nil <| WX.mid () trivial ⟨bI (by unfold okByte; omega), trivial⟩ ⟨rfl, rfl, rfl, rfl, trivial⟩ (fun _ h => h)
            ·
              exact sv (vpkt rfl) <| sv (vmB rfl) <| sng rfl <| sng rfl <| sv (vpkf rfl) <| WL.nil <| WX.mid () trivial ⟨bF (by unfold okByte; omega), trivial⟩ ⟨rfl, rfl, rfl, rfl, trivial⟩ (fun _ h => h)
          ·
            exact svg rfl (vpkf rfl) <| sv (vpkt rfl) <| sv (vmB rfl) <| sng rfl <| sng rfl <| sv (vpkf rfl) <| sv (vmB rfl) <| sng rfl <| sng rfl <| sv (vpkf rfl) <| WL.nil <| WX.mid () trivial ⟨bF (by unfold okByte; omega), trivial⟩ ⟨rfl, rfl, rfl, rfl, trivial⟩ (fun _ h => h)
      ·
        refine sv (vmB rfl) <| svg rfl (vmI rfl) <| svsg rfl (vgt rfl rfl) (fun q6 => ?_) (fun q6 => ?_)
        ·
          refine sv (vpkf rfl) <| sv (vmB rfl) <| svg rfl (vmI rfl) <| svsg rfl (vlt rfl rfl) (fun q7 => ?_) (fun q7 => ?_)
          ·
            refine svg rfl (vmB rfl) <| sng rfl <| sng rfl <| svg rfl (vpkt rfl) <| sv (vpkt rfl) <| sv (vmB rfl) <| svg rfl (vmI rfl) <| svsg rfl (vne rfl rfl) (fun q8 => ?_) (fun q8 => ?_)
            ·
              exact sv (vpkt rfl) <| sv (vmB rfl) <| svg rfl (vmI rfl) <| svg rfl (vne rfl rfl) <| sv (vpkt rfl) <| WL.nil <| WX.mid () trivial ⟨bI (by unfold okByte; omega), trivial⟩ ⟨rfl, rfl, rfl, rfl, trivial⟩ (fun _ h => h)
            ·
              exact sv (vpkt rfl) <| sv (vmB rfl) <| sng rfl <| sng rfl <| sv (vpkf rfl) <| WL.nil <| WX.mid () trivial ⟨bF (by unfold okByte; omega), trivial⟩ ⟨rfl, rfl, rfl, rfl, trivial⟩ (fun _ h => h)
          ·
            refine svg rfl (vmB rfl) <| svg rfl (vmI rfl) <| svsg rfl (vgt rfl rfl) (fun q9 => ?_) (fun q9 => ?_)
            ·
              refine svg rfl (vpkf rfl) <| sv (vpkt rfl) <| sv (vmB rfl) <| svg rfl (vmI rfl) <| svsg rfl (vne rfl rfl) (fun q10 => ?_) (fun q10 => ?_)
              ·
                exact sv (vpkt rfl) <| sv (vmB rfl) <| svg rfl (vmI rfl) <| svg rfl (vne rfl rfl) <| sv (vpkt rfl) <| WL.nil <| WX.mid () trivial ⟨bI (by unfold okByte; omega), trivial⟩ ⟨rfl, rfl, rfl, rfl, trivial⟩ (fun _ h => h)
              ·
                exact sv (vpkt rfl) <| sv (vmB rfl) <| sng rfl <| sng rfl <| sv (vpkf rfl) <| WL.nil <| WX.mid () trivial ⟨bF (by unfold okByte; omega), trivial⟩ ⟨rfl, rfl, rfl, rfl, trivial⟩ (fun _ h => h)
            ·
              exact svg rfl (vpkf rfl) <| sv (vpkt rfl) <| sv (vmB rfl) <| sng rfl <| sng rfl <| sv (vpkf rfl) <| sv (vmB rfl) <| sng rfl <| sng rfl <| sv (vpkf rfl) <| WL.nil <| WX.mid () trivial ⟨bF (by unfold okByte; omega), trivial⟩ ⟨rfl, rfl, rfl, rfl, trivial⟩ (fun _ h => h)
        ·
          exact sv (vpkf rfl) <| sv (vmB rfl) <| sng rfl <| sng rfl <| sng rfl <| sng rfl <| sng rfl <| sng rfl <| sv (vpkf rfl) <| sv (vmB rfl) <| sng rfl <| sng rfl <| sv (vpkf rfl) <| sv (vmB rfl) <| sng rfl <| sng rfl <| sv (vpkf rfl) <| WL.nil <| WX.mid () trivial ⟨bF (by unfold okByte; omega), trivial⟩ ⟨rfl, rfl, rfl, rfl, trivial⟩ (fun _ h => h)
    refine WC.ite rfl (fun h2 => ?_) (fun h2 => ?_)
    · -- then
      have hm : s.data.toList.getD k 0 ∈ s.data.toList := by rw [List.getD_eq_getElem?_getD, List.getElem?_eq_getElem (by omega)]; exact List.getElem_mem _
      exact WC.seq <| WC.region <| sv (vaB rfl) <| WL.nil <| WX.thenN <| WC.ret <| WX.blockR <| WX.thenR <| WX.thenR <| WX.blockR <| WX.thenR <| WX.ret1 rfl (()) (trivial) (bF (fun h => h2 (h.1 _ hm))) (fun w h => h.suf)
    · -- else
      exact WC.skip <| WX.blockN <| WX.thenN <| WC.region <| sv (vadd rfl rfl (by omega)) <| sv (vmI rfl) <| WL.nil <| WX.again (k + 1) (⟨by omega, fun j h => by rcases Nat.lt_succ_iff_lt_or_eq.1 h with h | rfl; exact hj j h; exact Decidable.not_not.1 h2⟩) (by omega) ⟨rfl, trivial⟩ ⟨rfl, rfl, rfl, trivial⟩ (fun _ h => h)
  · -- else
    have hall : ∀ c ∈ s.data.toList, okByte c := fun c hc => by
      obtain ⟨j, hj', rfl⟩ := List.mem_iff_getElem.1 hc
      have := hj j (by omega)
      rwa [List.getD_eq_getElem?_getD, List.getElem?_eq_getElem hj'] at this
    have hE : okName s ↔ s ≠ ByteArray.empty ∧ s.size ≤ 16 := by
      unfold okName; rw [size_ne]; exact ⟨fun h => h.2, fun h => ⟨hall, h⟩⟩
    refine WC.exit <| WX.thenE <| WX.thenE <| WX.blockH <| WX.thenN <| ?_
    refine WC.cut0 [(2, .bool (decide (okName s)))] [] (A) trivial ?_ fun ρh => ?_
    · -- disk.go:36
      refine WC.region <| sv (vmT rfl) <| svs (vnes rfl rfl) (fun q11 => ?_) (fun q11 => ?_)
      ·
        exact sv (vmB rfl) <| svg rfl (vmT rfl) <| svg rfl (vlens Tryz.underlying9 rfl) <| svg rfl (vle rfl rfl) <| sv (vpkt rfl) <| sv (vaB rfl) <| WL.nil <| WX.mid () trivial ⟨bI ⟨fun h => hE.2 ⟨q11, by omega⟩, fun h => by have := (hE.1 h).2; omega⟩, trivial⟩ trivial (fun w h => h.suf)
      ·
        exact sv (vmB rfl) <| sng rfl <| sng rfl <| sng rfl <| sv (vpkf rfl) <| sv (vaB rfl) <| WL.nil <| WX.mid () trivial ⟨bF (fun h => q11 (hE.1 h).1), trivial⟩ trivial (fun w h => h.suf)
    exact WC.ret <| WX.ret1 rfl (()) (trivial) rfl (fun _ h => h)
end Go.Proofs.YthljpljbpbkkcaaGreatDoor
end
