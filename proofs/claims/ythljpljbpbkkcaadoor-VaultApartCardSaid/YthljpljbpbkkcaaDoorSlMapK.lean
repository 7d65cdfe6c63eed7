/-
  Maps of the call's own whose keys are structs: made, looked up, updated, ranged over, entries deleted meanwhile. Plain theorems over any program.
-/
import Derived.Test.YthljpljbpbkkcaaDoorSlAuto
import Derived.DeepKeys3
set_option linter.unusedVariables false
set_option linter.unusedSimpArgs false
namespace Go.Sl
open Go.RowKit
open Go.ChangeMaps (setBlock)
open Go.MapKept

theorem erase_map {α β : Type} (f : α → β) : ∀ (l : List α) (j : Nat), (l.eraseIdx j).map f = (l.map f).eraseIdx j
  | [], _ => by simp
  | a :: l, 0 => by simp
  | a :: l, j + 1 => by simp [erase_map f l j]
/-- what a map asks of its keys -/
structure KeyK (P : Program) (kt : TypeId) (K : Value → Prop) : Prop where
  check : ∀ (w : World) (em : Bool) {v : Value}, K v → (Instr.checkKey em 10000 kt v).run P w = .ok () w
  find : ∀ (w : World) {x : Value}, K x → ∀ es : List MapEntry, (∀ e ∈ es, K e.key) →
    ((Instr.findKey kt x es).run P w = .ok none w ∧ ∀ e ∈ es, e.key ≠ x) ∨ ∃ (j : Nat) (e : MapEntry), (Instr.findKey kt x es).run P w = .ok (some (j, e.val)) w ∧ es[j]? = some e ∧ e.key = x
  stays : ∀ (w : World) {v : Value}, K v → (Instr.keyThatStays v v).run P w = .ok v w
theorem KeyK.deep {P : Program} {m : Nat} (hm : m + 1 ≤ 10000) {k : TypeId} (hk : P.keyTypeAt m k = true) (ht : P.tiled m k = true) (hw : (match P.underlying k with | some (.array _ _) | some (.struct _) => true | _ => false) = true) : KeyK P k (fun v => ∃ l, keyOf P k v = some l) where
  check := fun w em v ⟨l, h⟩ => (deep_law hm hk ht hw).check w em h
  find := fun w x ⟨l, h⟩ es hes => (deep_law hm hk ht hw).find w h es hes
  stays := fun w v ⟨l, h⟩ => (deep_law hm hk ht hw).stays w h
def mpk (K : Value → Prop) (m : Nat) (ps : List (Value × Value)) : HProp := fun h => ∃ es clk, (es.toList.map (fun e => (e.key, e.val)) = ps ∧ Stamped es clk ∧ ∀ x ∈ es.toList, K x.key) ∧ pt m (.map es clk) h
section
variable {w0 w : World} {A R : List HProp} {K : Value → Prop} {m : Nat} {ps : List (Value × Value)}
theorem Own.mpk (H : Own w0 (Sl.mpk K m ps :: R) w) : ∃ es clk, (es.toList.map (fun e => (e.key, e.val)) = ps ∧ Stamped es clk ∧ ∀ x ∈ es.toList, K x.key) ∧ Own w0 (pt m (.map es clk) :: R) w := by
  obtain ⟨hb, h, ⟨h1, h2, ⟨es, clk, c, a⟩, a2, dd, x⟩, hw⟩ := H
  exact ⟨es, clk, c, hb, h, ⟨h1, h2, a, a2, dd, x⟩, hw⟩
theorem Own.intro_mpk {es : Array MapEntry} {clk : Nat} (hc : es.toList.map (fun e => (e.key, e.val)) = ps ∧ Stamped es clk ∧ ∀ x ∈ es.toList, K x.key) (H : Own w0 (pt m (.map es clk) :: R) w) : Own w0 (Sl.mpk K m ps :: R) w :=
  H.head fun _ h => ⟨es, clk, hc, h⟩
def MpkC (w0 : World) (A : List HProp) (K : Value → Prop) (m : Nat) (ps : List (Value × Value)) : Prop := ∀ w, Own w0 A w → ∃ es clk, (es.toList.map (fun e => (e.key, e.val)) = ps ∧ Stamped es clk ∧ ∀ x ∈ es.toList, K x.key) ∧ w.heap[m]? = some (.map es clk)
class MpkAt (w0 : World) (A : List HProp) (m : Nat) (K : outParam (Value → Prop)) (ps : outParam (List (Value × Value))) : Prop where
  mp : MpkC w0 A K m ps
instance (priority := low) MpkAt.tail {X : HProp} [h : MpkAt w0 A m K ps] : MpkAt w0 (X :: A) m K ps := ⟨fun w hw => h.mp w hw.tail⟩
instance MpkAt.head : MpkAt w0 (Sl.mpk K m ps :: A) m K ps := ⟨fun w hw => by
  obtain ⟨es, clk, hc, hO⟩ := hw.mpk
  exact ⟨es, clk, hc, hO.heap.1⟩⟩
instance (priority := low) MpkAt.app {G : List HProp} [h : MpkAt w0 A m K ps] : MpkAt w0 (G ++ A) m K ps := ⟨by
  induction G with
  | nil => exact h.mp
  | cons X G ih => exact fun w hw => ih w hw.tail⟩
class MpkUp (A : List HProp) (m : Nat) (K : outParam (Value → Prop)) (ps : outParam (List (Value × Value))) (F : outParam (List (Value × Value) → List HProp)) : Prop where
  up : ∃ R, A.Perm (mpk K m ps :: R) ∧ ∀ us, (mpk K m us :: R).Perm (F us)
instance (priority := low) MpkUp.tail {X : HProp} {F : List (Value × Value) → List HProp} [h : MpkUp A m K ps F] : MpkUp (X :: A) m K ps (fun us => X :: F us) := ⟨by
  obtain ⟨R, h1, h2⟩ := h.up
  exact ⟨X :: R, (h1.cons _).trans (.swap _ _ _), fun us => (List.Perm.swap _ _ _).trans ((h2 us).cons _)⟩⟩
instance MpkUp.head : MpkUp (mpk K m ps :: A) m K ps (fun us => mpk K m us :: A) := ⟨A, .refl _, fun _ => .refl _⟩
end
section
variable {P : Program} {w0 : World} {n : Nat} {ops : Array Oper} {Q : Exit → Act → World → Prop} {ρ : Env} {A R : List HProp} {rest : List Oper} {T : TypeId} {pos : String} {af : Array Edge} {x y z : Operand} {t kt et : TypeId} {K : Value → Prop} {m b : Nat} {ps ps' : List (Value × Value)} {k v : Value} {dd : Option Tmp} {g : Option (Nat × Bool)} {okf : Bool}
theorem mkmK {dst : Nat} (K : Value → Prop) (h : ∀ m, WL P w0 n ops Q rest (set ρ dst (.map (some m))) (mpk K m [] :: A)) : WL P w0 n ops Q (⟨some dst, .makeMap t none, T, pos, af, none⟩ :: rest) ρ A :=
  WL.step rfl fun w hw => ⟨.value (.map (some w.heap.size)), w.alloc (.map #[] 0), _, _, by
    simp [execOp, Instr.makeMap, Result.andThen], put_act .., Own.intro_mpk (es := #[]) (clk := 0) ⟨rfl, stamped_empty 0, by simp⟩ (hw.alloc _), h _⟩
theorem vlkK {j : Nat} (ht : P.underlying t = some (.map kt et)) (hK : KeyK P kt K) (hx : ev n ρ x = .map (some m)) (hy : ev n ρ y = k) (hk : K k) [hm : MpkAt w0 A m K ps] (hj : ps[j]? = some (k, v)) : Val P w0 n ρ A ⟨dd, .lookup t x y okf, T, pos, af, g⟩ (if okf then .tuple #[v, .bool true] else v) := fun w hw => by
  obtain ⟨es, clk, ⟨h1, h2, h3⟩, hb⟩ := hm.mp w hw
  have hc := hK.check w es.isEmpty hk
  rcases hK.find w hk es.toList h3 with ⟨_, f2⟩ | ⟨i, e, f1, f2, f3⟩
  · rw [← h1, List.getElem?_map, Option.map_eq_some_iff] at hj
    obtain ⟨e, he, hke⟩ := hj
    exact absurd (congrArg Prod.fst hke) (f2 e (List.mem_of_getElem? he))
  · have hv : e.val = v := by
      rw [← h1, List.getElem?_map, Option.map_eq_some_iff] at hj
      obtain ⟨e', he', hke⟩ := hj
      have hkk : e'.key = e.key := by rw [f3]; exact congrArg Prod.fst hke
      have h4 := same_of h2.2.2 (List.mem_of_getElem? he') (List.mem_of_getElem? f2) hkk
      subst h4
      exact congrArg Prod.snd hke
    cases okf <;> simp [execOp, hx, hy, Instr.lookup, run_underlying ht, MapKept.run_getObj_map hb, hc, f1, Result.andThen, hv]
theorem vlkzK {zv : Value} {s by_ : Nat} (ht : P.underlying t = some (.map kt et)) (hK : KeyK P kt K) (hz : zeroT P et zv s by_) (hx : ev n ρ x = .map (some m)) (hy : ev n ρ y = k) (hk : K k) [hm : MpkAt w0 A m K ps] (hj : ∀ p ∈ ps, p.1 ≠ k) : Val P w0 n ρ A ⟨dd, .lookup t x y okf, T, pos, af, g⟩ (if okf then .tuple #[zv, .bool false] else zv) := fun w hw => by
  obtain ⟨es, clk, ⟨h1, h2, h3⟩, hb⟩ := hm.mp w hw
  obtain ⟨i, z1, z2, _, _⟩ := hz
  have hc := hK.check w es.isEmpty hk
  rcases hK.find w hk es.toList h3 with ⟨f1, f2⟩ | ⟨i, e, f1, f2, f3⟩
  · cases okf <;> simp [execOp, hx, hy, Instr.lookup, run_underlying ht, MapKept.run_getObj_map hb, hc, f1, Result.andThen, zeroValue, typeInfo, z1, z2]
  · exact absurd f3 (hj (e.key, e.val) (by rw [← h1]; exact List.mem_map.2 ⟨e, List.mem_of_getElem? f2, rfl⟩))
/-- whether a key is there, and its value or the zero one -/
inductive GetE (ps : List (Value × Value)) (k zv : Value) : Value → Bool → Prop
  | old (j : Nat) (u : Value) (h : ps[j]? = some (k, u)) : GetE ps k zv u true
  | new (h : ∀ p ∈ ps, p.1 ≠ k) : GetE ps k zv zv false
theorem vlk2K {zv : Value} {s by_ : Nat} {b : Bool} (ht : P.underlying t = some (.map kt et)) (hK : KeyK P kt K) (hz : zeroT P et zv s by_) (hx : ev n ρ x = .map (some m)) (hy : ev n ρ y = k) (hk : K k) [hm : MpkAt w0 A m K ps] (hj : GetE ps k zv v b) : Val P w0 n ρ A ⟨dd, .lookup t x y true, T, pos, af, g⟩ (.tuple #[v, .bool b]) := by
  cases hj with
  | old j u h => exact vlkK (okf := true) ht hK hx hy hk h
  | new h => exact vlkzK (okf := true) ht hK hz hx hy hk h
theorem vlk1K {zv : Value} {s by_ : Nat} {b : Bool} (ht : P.underlying t = some (.map kt et)) (hK : KeyK P kt K) (hz : zeroT P et zv s by_) (hx : ev n ρ x = .map (some m)) (hy : ev n ρ y = k) (hk : K k) [hm : MpkAt w0 A m K ps] (hj : GetE ps k zv v b) : Val P w0 n ρ A ⟨dd, .lookup t x y false, T, pos, af, g⟩ v := by
  cases hj with
  | old j u h => exact vlkK (okf := false) ht hK hx hy hk h
  | new h => exact vlkzK (okf := false) ht hK hz hx hy hk h
/-- a string key, there or not -/
theorem vlk1S {zv : Value} {s by_ : Nat} {b : Bool} {d : TypeDesc} (ht : P.underlying t = some (.map kt et)) (hd : P.underlying kt = some d) (hz : zeroT P et zv s by_) (hx : ev n ρ x = .map (some m)) (hy : ev n ρ y = k) (hk : IsKey d k) [hm : MpAt w0 A m d ps] (hj : GetE ps k zv v b) : Val P w0 n ρ A ⟨dd, .lookup t x y false, T, pos, af, g⟩ v := by
  cases hj with
  | old j u h => exact vlk ht hd hx hy hk h
  | new h => exact vlkz ht hd hz hx hy hk h
theorem mpuK (ht : P.underlying t = some (.map kt et)) (hK : KeyK P kt K) (hx : ev n ρ x = .map (some m)) (hy : ev n ρ y = k) (hz : ev n ρ z = v) (hk : K k) (hj : PutE ps k v ps')
    (h : WL P w0 n ops Q rest ρ (mpk K m ps' :: R)) : WL P w0 n ops Q (⟨none, .mapUpdate t x y z, T, pos, af, none⟩ :: rest) ρ (mpk K m ps :: R) :=
  WL.step rfl fun w hw => by
    obtain ⟨es, clk, ⟨h1, h2, h3⟩, hO⟩ := hw.mpk
    have hb := hO.heap.1
    have hc := hK.check w false hk
    rcases hK.find w hk es.toList h3 with ⟨f1, f2⟩ | ⟨i, e, f1, f2, f3⟩
    · cases hj with
      | old j u hj =>
        rw [← h1, List.getElem?_map, Option.map_eq_some_iff] at hj
        obtain ⟨e, he, hke⟩ := hj
        exact absurd (congrArg Prod.fst hke) (f2 e (List.mem_of_getElem? he))
      | new hj =>
        refine ⟨.skip, _, _, _, by
          simp [execOp, hx, hy, hz, Instr.mapUpdate, run_underlying ht, MapKept.run_getObj_map hb, hc, f1, run_setObj_map _ hb, Result.andThen], rfl,
          Own.intro_mpk (es := es.push { key := k, val := v, born := clk }) (clk := clk + 1) ⟨by simp [h1], stamped_push h2 f2, fun x hx => ?_⟩ (hO.turned (Turned.setBlock hb)), h⟩
        simp only [Array.toList_push, List.mem_append, List.mem_singleton] at hx
        rcases hx with hx | rfl
        · exact h3 x hx
        · exact hk
    · cases hj with
      | new hj => exact absurd f3 (hj (e.key, e.val) (by rw [← h1]; exact List.mem_map.2 ⟨e, List.mem_of_getElem? f2, rfl⟩))
      | old j u hj =>
        have hij : j = i := by
          rw [← h1, List.getElem?_map, Option.map_eq_some_iff] at hj
          obtain ⟨e', he', hke⟩ := hj
          have hkk : e'.key = e.key := by rw [f3]; exact congrArg Prod.fst hke
          have hn := h2.2.2
          have g1 : (es.toList.map (·.key))[j]? = some e'.key := by simp [he']
          have g2 : (es.toList.map (·.key))[i]? = some e'.key := by simp [f2, hkk]
          exact (List.getElem?_inj (by simpa using (List.getElem?_eq_some_iff.1 he').1) hn).1 (g1.trans g2.symm)
        subst hij
        have hi : es[j]? = some e := by simpa using f2
        have hst := hK.stays w hk
        have hkey : ∀ e', es[j]? = some e' → ({ e' with key := k, val := v } : MapEntry).key = e'.key := fun e' he' => by rw [hi] at he'; cases he'; exact f3.symm
        refine ⟨.skip, _, _, _, by
          simp [execOp, hx, hy, hz, Instr.mapUpdate, run_underlying ht, MapKept.run_getObj_map hb, hc, f1, hi, f3, hst, run_setObj_map _ hb, Result.andThen], rfl,
          Own.intro_mpk (es := es.modify j fun e => { e with key := k, val := v }) (clk := clk) ⟨?_, stamped_modify h2 _ _ (fun _ _ => rfl) (fun e' _ he' => hkey e' he'), fun x hx => ?_⟩ (hO.turned (Turned.setBlock hb)), h⟩
        · rw [Array.toList_modify, ← h1]
          apply List.ext_getElem?
          intro q
          simp only [List.getElem?_map, List.getElem?_modify, List.getElem?_set]
          by_cases hq : j = q
          · subst hq
            have hjl : j < es.size := by simpa using (List.getElem?_eq_some_iff.1 f2).1
            simp [f2, hjl]
          · simp [hq]
        · rw [Array.toList_modify] at hx
          obtain ⟨q, hq⟩ := List.mem_iff_getElem?.1 hx
          rw [List.getElem?_modify] at hq
          cases hqe : es.toList[q]? with
          | none => rw [hqe] at hq; simp at hq
          | some e' =>
            rw [hqe] at hq
            by_cases hjq : j = q
            · simp [hjq] at hq; rw [← hq]; exact hk
            · simp [hjq] at hq; rw [← hq]; exact h3 e' (List.mem_of_getElem? hqe)
theorem mpupK {F : List (Value × Value) → List HProp} (ht : P.underlying t = some (.map kt et)) (hK : KeyK P kt K) (hx : ev n ρ x = .map (some m)) (hy : ev n ρ y = k) (hz : ev n ρ z = v) (hk : K k) [hc : MpkUp A m K ps F] (hj : PutE ps k v ps')
    (h : WL P w0 n ops Q rest ρ (F ps')) : WL P w0 n ops Q (⟨none, .mapUpdate t x y z, T, pos, af, none⟩ :: rest) ρ A := by
  obtain ⟨R, h1', h2⟩ := hc.up
  exact (mpuK ht hK hx hy hz hk hj (h.perm fun _ H => H.perm (h2 _))).perm fun _ H => H.perm h1'
end
/-- A map that is ranged over, its iterator, the keys that came up, and the one that came up last if it is still there. -/
def mrk (K : Value → Prop) (m : Nat) (ps : List (Value × Value)) (it : Nat) (vis : List Value) (last : Option Value) : HProp := fun h => ∃ es clk seen, (es.toList.map (fun e => (e.key, e.val)) = ps ∧ Stamped es clk ∧ ∀ x ∈ es.toList, K x.key) ∧
  ((∀ x ∈ es.toList, (seen.contains x.born = true ↔ x.key ∈ vis)) ∧ ∀ k, last = some k → ∃ (e : MapEntry) (seen' : Array Nat), e ∈ es.toList ∧ e.key = k ∧ seen = seen'.push e.born) ∧ star (pt m (.map es clk)) (pt it (.mapIter (some m) clk seen clk)) h
section
variable {w0 w : World} {A R : List HProp} {K : Value → Prop} {m it : Nat} {ps : List (Value × Value)} {vis : List Value} {last : Option Value}
theorem Own.mrk (H : Own w0 (Sl.mrk K m ps it vis last :: R) w) : ∃ es clk seen, (es.toList.map (fun e => (e.key, e.val)) = ps ∧ Stamped es clk ∧ ∀ x ∈ es.toList, K x.key) ∧
    ((∀ x ∈ es.toList, (seen.contains x.born = true ↔ x.key ∈ vis)) ∧ ∀ k, last = some k → ∃ (e : MapEntry) (seen' : Array Nat), e ∈ es.toList ∧ e.key = k ∧ seen = seen'.push e.born) ∧ Own w0 (pt m (.map es clk) :: pt it (.mapIter (some m) clk seen clk) :: R) w := by
  obtain ⟨hb, h, ⟨h1, h2, ⟨es, clk, seen, c, c2, a⟩, a2, dd, x⟩, hw⟩ := H
  exact ⟨es, clk, seen, c, c2, Own.star ⟨hb, h, ⟨h1, h2, a, a2, dd, x⟩, hw⟩⟩
theorem Own.intro_mrk {es : Array MapEntry} {clk : Nat} {seen : Array Nat} (hc : es.toList.map (fun e => (e.key, e.val)) = ps ∧ Stamped es clk ∧ ∀ x ∈ es.toList, K x.key)
    (hs : (∀ x ∈ es.toList, (seen.contains x.born = true ↔ x.key ∈ vis)) ∧ ∀ k, last = some k → ∃ (e : MapEntry) (seen' : Array Nat), e ∈ es.toList ∧ e.key = k ∧ seen = seen'.push e.born)
    (H : Own w0 (pt m (.map es clk) :: pt it (.mapIter (some m) clk seen clk) :: R) w) : Own w0 (Sl.mrk K m ps it vis last :: R) w := H.intro_star.head fun _ h => ⟨es, clk, seen, hc, hs, h⟩
theorem Own.mrk_mpk (H : Own w0 (Sl.mrk K m ps it vis last :: R) w) : Own w0 (Sl.mpk K m ps :: R) w := by
  obtain ⟨es, clk, seen, hc, hs, hO⟩ := H.mrk
  exact Own.intro_mpk hc hO.pk1.tail
/-- keys are given once -/
theorem Own.mpk_nodup (H : Own w0 (Sl.mpk K m ps :: R) w) : (ps.map (·.1)).Nodup ∧ ∀ p ∈ ps, K p.1 := by
  obtain ⟨es, clk, ⟨h1, h2, h3⟩, _⟩ := H.mpk
  refine ⟨?_, fun p hp => ?_⟩
  · rw [← h1, List.map_map]; exact h2.2.2
  · rw [← h1] at hp
    obtain ⟨e, he, rfl⟩ := List.mem_map.1 hp
    exact h3 e he
end
section
variable {P : Program} {w0 : World} {n : Nat} {ops : Array Oper} {Q : Exit → Act → World → Prop} {ρ : Env} {A R : List HProp} {rest : List Oper} {T : TypeId} {pos : String} {af : Array Edge} {x y z : Operand} {t kt et : TypeId} {K : Value → Prop} {m it dst : Nat} {ps : List (Value × Value)} {vis : List Value} {k v : Value} {dd : Option Tmp} {g : Option (Nat × Bool)} {last : Option Value}
/-- range over a map -/
theorem rgmK (ht : P.underlying t = some (.map kt et)) (hx : ev n ρ x = .map (some m)) (h : ∀ it, WL P w0 n ops Q rest (set ρ dst (.pointer (some ⟨it, 0, none⟩))) (mrk K m ps it [] none :: R)) :
    WL P w0 n ops Q (⟨some dst, .range t x, T, pos, af, none⟩ :: rest) ρ (mpk K m ps :: R) :=
  WL.step rfl fun w hw => by
    obtain ⟨es, clk, hc, hO⟩ := hw.mpk
    have hb := hO.heap.1
    refine ⟨.value (.pointer (some ⟨w.heap.size, 0, none⟩)), w.alloc (.mapIter (some m) clk #[] clk), _, _, ?_, put_act .., Own.intro_mrk (seen := #[]) hc ⟨by simp, fun k h => by cases h⟩ (hO.alloc _).pk1, h _⟩
    simp [execOp, hx, Instr.range, run_underlying ht, MapKept.run_getObj_map hb, Result.andThen]
/-- one step of a range -/
theorem nxmK (hx : ev n ρ x = .pointer (some ⟨it, 0, none⟩)) (hmore : ∀ k v, (k, v) ∈ ps → k ∉ vis → WL P w0 n ops Q rest (set ρ dst (.tuple #[.bool true, k, v])) (mrk K m ps it (k :: vis) (some k) :: R))
    (hend : (∀ p ∈ ps, p.1 ∈ vis) → WL P w0 n ops Q rest (set ρ dst (.tuple #[.bool false])) (mrk K m ps it vis last :: R)) :
    WL P w0 n ops Q (⟨some dst, .next x false, T, pos, af, none⟩ :: rest) ρ (mrk K m ps it vis last :: R) :=
  WL.step rfl fun w hw => by
    obtain ⟨es, clk, seen, hc, hs, hO⟩ := hw.mrk
    have hb := hO.heap.1
    have hr := hO.pk1.heap.1
    rcases run_next_at (P := P) w T it m clk clk seen es clk hr hb hc.2.1.1 (Nat.le_refl _) with ⟨h0, hrun⟩ | ⟨e, he, w1, hw1, hrun⟩
    · refine ⟨.value (.tuple #[.bool false]), w, _, _, ?_, put_act .., hw, hend fun p hp => ?_⟩
      · simp only [execOp, hx]
        simp [hrun, Result.andThen]
      · rw [← hc.1] at hp
        obtain ⟨e, he, rfl⟩ := List.mem_map.1 hp
        have hno : leftOf es seen = #[] := Array.eq_empty_of_size_eq_zero h0
        have : e ∉ leftOf es seen := by rw [hno]; simp
        simp only [leftOf, Array.mem_filter, not_and, Bool.not_eq_true'] at this
        have h2 := this (by simpa using he)
        exact (hs.1 e he).1 (by simpa using h2)
    · have hel : e ∈ es.toList ∧ seen.contains e.born = false := by
        simp only [leftOf, Array.toList_filter, List.mem_filter, Bool.not_eq_true'] at he
        exact he
      have hnv : e.key ∉ vis := fun h => by
        have h3 := (hs.1 e hel.1).2 h
        rw [hel.2] at h3
        cases h3
      have hw1' : Own w0 (pt it (.mapIter (some m) clk seen clk) :: pt m (.map es clk) :: R) w1 := by
        rcases hw1 with rfl | rfl
        · exact hO.pk1
        · exact hO.pk1.drew
      have hr1 := hw1'.heap.1
      refine ⟨.value (.tuple #[.bool true, e.key, e.val]), setBlock w1 it (.mapIter (some m) clk (seen.push e.born) clk), _, _, ?_, put_act .., Own.intro_mrk hc ⟨fun y hy => ?_, fun k hk => ?_⟩ (hw1'.turned (Turned.setBlock hr1)).pk1, hmore e.key e.val (by rw [← hc.1]; exact List.mem_map.2 ⟨e, hel.1, rfl⟩) hnv⟩
      · simp only [execOp, hx]
        simp [hrun, Result.andThen]
      · have hbk : y.born = e.born ↔ y.key = e.key := by
          constructor
          · intro h; rw [same_of hc.2.1.2.1 hy hel.1 h]
          · intro h; rw [same_of hc.2.1.2.2 hy hel.1 h]
        simp only [Array.contains_push, Bool.or_eq_true, beq_iff_eq, List.mem_cons, hs.1 y hy, hbk]
        exact or_comm
      · cases hk; exact ⟨e, seen, hel.1, rfl, rfl⟩
/-- the key and the value that came up last -/
theorem venK (hx : ev n ρ x = .pointer (some ⟨it, 0, none⟩)) (hk : (k, v) ∈ ps) : Val P w0 n ρ (mrk K m ps it vis (some k) :: R) ⟨dd, .entry x, T, pos, af, g⟩ (.tuple #[k, v]) := fun w hw => by
  obtain ⟨es, clk, seen, hc, hs, hO⟩ := hw.mrk
  have hb := hO.heap.1
  have hr := hO.pk1.heap.1
  obtain ⟨e, seen', he, hek, hse⟩ := hs.2 k rfl
  subst hse
  have hrun := run_entry_at (P := P) w it m clk seen' es clk e hr hb he hc.2.1.2.1
  have hv : e.val = v := by
    rw [← hc.1] at hk
    obtain ⟨e', he', hke⟩ := List.mem_map.1 hk
    have h1 : e'.key = e.key := by rw [hek]; exact congrArg Prod.fst hke
    have h2 := same_of hc.2.1.2.2 he' he h1
    subst h2
    exact congrArg Prod.snd hke
  simp only [execOp, hx]
  simp [hrun, Result.andThen, hek, hv]
/-- the entry with a key that is there goes -/
theorem delK {j : Nat} (ht : P.underlying t = some (.map kt et)) (hK : KeyK P kt K) (hx : ev n ρ x = .map (some m)) (hy : ev n ρ y = k) (hk : K k) (hj : ps[j]? = some (k, v))
    (h : WL P w0 n ops Q rest ρ (mrk K m (ps.eraseIdx j) it vis none :: R)) :
    WL P w0 n ops Q (⟨none, .call ⟨.builtin .delete, #[x, y], #[t, kt]⟩, T, pos, af, none⟩ :: rest) ρ (mrk K m ps it vis last :: R) :=
  WL.step rfl fun w hw => by
    obtain ⟨es, clk, seen, ⟨h1, h2, h3⟩, hs, hO⟩ := hw.mrk
    have hb := hO.heap.1
    have hc := hK.check w es.isEmpty hk
    have hj' := hj
    rw [← h1, List.getElem?_map, Option.map_eq_some_iff] at hj'
    obtain ⟨e', he', hke⟩ := hj'
    rcases hK.find w hk es.toList h3 with ⟨_, f2⟩ | ⟨i, e, f1, f2, f3⟩
    · exact absurd (congrArg Prod.fst hke) (f2 e' (List.mem_of_getElem? he'))
    · have hij : j = i := by
        have hkk : e'.key = e.key := by rw [f3]; exact congrArg Prod.fst hke
        have hn := h2.2.2
        have g1 : (es.toList.map (·.key))[j]? = some e'.key := by simp [he']
        have g2 : (es.toList.map (·.key))[i]? = some e'.key := by simp [f2, hkk]
        exact (List.getElem?_inj (by simpa using (List.getElem?_eq_some_iff.1 he').1) hn).1 (g1.trans g2.symm)
      subst hij
      have hjl : j < es.size := by simpa using (List.getElem?_eq_some_iff.1 f2).1
      have htl : (es.eraseIdxIfInBounds j).toList = es.toList.eraseIdx j := by
        unfold Array.eraseIdxIfInBounds
        rw [dif_pos hjl, Array.toList_eraseIdx]
      have hsub : (es.toList.eraseIdx j).Sublist es.toList := List.eraseIdx_sublist _ _
      refine ⟨.value (.tuple #[]), _, _, _, by
        simp [execOp, resolve, invoke, builtin, Builtin.delete_, hx, hy, run_underlying ht, MapKept.run_getObj_map hb, hc, f1, run_setObj_map _ hb, Result.andThen], rfl,
        Own.intro_mrk (es := es.eraseIdxIfInBounds j) (clk := clk) (seen := seen) ⟨?_, ?_, ?_⟩ ⟨?_, fun k h => by cases h⟩ (hO.turned (Turned.setBlock hb)), h⟩
      · rw [htl, ← h1, erase_map]
      · unfold Stamped at h2 ⊢
        rw [htl]
        exact ⟨fun x hx => h2.1 x (hsub.subset hx), (hsub.map _).nodup h2.2.1, (hsub.map _).nodup h2.2.2⟩
      · rw [htl]; exact fun x hx => h3 x (hsub.subset hx)
      · rw [htl]; exact fun x hx => hs.1 x (hsub.subset hx)
end
/-! ### Keys that are structs: their letters -/
/-- a struct's fields: type, place, cells -/
def fieldsAre (P : Program) (t : TypeId) (l : List (TypeId × Nat × Nat)) : Bool := match P.underlying t with
  | some (.struct fs) => (fs.toList.map fun f => (f.type, f.offset, P.cellsOf f.type)) == l && fs.all (·.name != "_")
  | _ => false
theorem kl_fields {P : Program} {d : Nat} {t : TypeId} {l : List (TypeId × Nat × Nat)} {cs : List Value} {ls : List (List Lit)} (h : fieldsAre P t l = true) (hc : Nat.beq cs.length (P.cellsOf t) = true) (hm : l.mapM (fun x => P.keyLits d x.1 ((cs.drop x.2.1).take x.2.2)) = some ls) : P.keyLits (d + 1) t cs = some ls.flatten := by
  unfold fieldsAre at h
  cases hu : P.underlying t with
  | none => rw [hu] at h; cases h
  | some k =>
    rw [hu] at h
    cases k <;> try (cases h; done)
    rename_i fs
    simp only [Bool.and_eq_true, beq_iff_eq] at h
    obtain ⟨h1, h2⟩ := h
    have hc' := Nat.eq_of_beq_eq_true hc
    unfold Program.keyLits
    simp only [hu]
    rw [if_pos ⟨hc', h2⟩]
    have e : fs.toList.mapM (fun f => P.keyLits d f.type ((cs.drop f.offset).take (P.cellsOf f.type))) = some ls := by
      rw [← h1, List.mapM_map] at hm
      exact hm
    rw [e]; rfl
theorem kl_int {P : Program} {d : Nat} {t : TypeId} {q : IntKind} {n : Int} (hu : P.underlying t = some (.int q)) (hw : (Lit.int q n).wf = true) : P.keyLits (d + 1) t [.int q n] = some [.int q n] := by
  unfold Program.keyLits
  simp only [hu]
  rw [if_pos ⟨trivial, hw⟩]
theorem kl_str {P : Program} {d : Nat} {t : TypeId} {s : ByteArray} (hu : P.underlying t = some .string) (hs : s.size ≤ maxLen) : P.keyLits (d + 1) t [.string s] = some [.string s.data.toList] := by
  unfold Program.keyLits
  simp only [hu]
  rw [if_pos hs]
theorem keyOf_struct {P : Program} {d : Nat} {t : TypeId} {l : List (TypeId × Nat × Nat)} {cs : List Value} {ls : List (List Lit)} (hk : P.keyType t = true) (h : fieldsAre P t l = true) (hd : P.types.size = d) (hc : Nat.beq cs.length (P.cellsOf t) = true) (hm : l.mapM (fun x => P.keyLits d x.1 ((cs.drop x.2.1).take x.2.2)) = some ls) : ∃ x, keyOf P t (.agg cs.toArray) = some x := by
  have hL := kl_fields (d := d) h hc hm
  unfold fieldsAre at h
  cases hu : P.underlying t with
  | none => rw [hu] at h; cases h
  | some k =>
    rw [hu] at h
    cases k <;> try (cases h; done)
    rename_i fs
    have hc' := Nat.eq_of_beq_eq_true hc
    refine ⟨.string (keyBytes ls.flatten), ?_⟩
    unfold keyOf
    simp only [hu]
    have hf : Value.formed P t (.agg cs.toArray) = true := by
      unfold Value.formed
      simp only [hu]
      simpa using hc'
    rw [hk, hf]
    simp only [Bool.and_self, if_true, Value.cells]
    rw [hd, hL]
    rfl
end Go.Sl
