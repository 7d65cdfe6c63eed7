/-
  Chunks picked out of what is borne, wherever they stand: stores in place, calls with what they ask for, plans whose frames are found. Plain theorems over any program.
-/
import Derived.Test.YthljpljbpbkkcaaDoorSlFor
set_option linter.unusedVariables false
set_option linter.unusedSimpArgs false
namespace Go.Sl
open Go.RowKit
open Go.MapKept

/-! ### Picked -/
/-- X stands in A; the rest is R. -/
inductive Tk : List HProp → HProp → List HProp → Prop
  | here {X : HProp} {R : List HProp} : Tk (X :: R) X R
  | there {X Y : HProp} {R R' : List HProp} (h : Tk R X R') : Tk (Y :: R) X (Y :: R')
/-- What stands in A bears B. -/
inductive Sb : List HProp → List HProp → Prop
  | all {A : List HProp} : Sb A A
  | nil {A : List HProp} : Sb A []
  | cons {A R l : List HProp} {X : HProp} (h : Tk A X R) (k : Sb R l) : Sb A (X :: l)
  | drop {Y : HProp} {A l : List HProp} (h : Sb A l) : Sb (Y :: A) l
/-- These stand in A; the rest is R. -/
inductive Spl : List HProp → List HProp → List HProp → Prop
  | nil {A : List HProp} : Spl A [] A
  | cons {A R R' l : List HProp} {X : HProp} (h : Tk A X R) (k : Spl R l R') : Spl A (X :: l) R'
theorem Tk.perm {A R : List HProp} {X : HProp} (h : Tk A X R) : A.Perm (X :: R) := by
  induction h with
  | here => exact .refl _
  | there h ih => exact (ih.cons _).trans (.swap _ _ _)
theorem Spl.perm {A l R : List HProp} (h : Spl A l R) : A.Perm (l ++ R) := by
  induction h with
  | nil => exact .refl _
  | cons h k ih => exact h.perm.trans (ih.cons _)
theorem Sb.ownC {w0 w : World} {A B : List HProp} (h : Sb A B) : ∀ C, Own w0 (C ++ A) w → Own w0 (C ++ B) w := by
  induction h with
  | all => exact fun _ H => H
  | nil => exact fun C H => by rw [List.append_nil]; exact H.prefix
  | @cons A R l X h k ih =>
    intro C H
    have h1 := ih (C ++ [X]) (by rw [List.append_assoc]; exact H.perm (List.Perm.append_left C h.perm))
    rwa [List.append_assoc] at h1
  | drop h ih => exact fun C H => ih C (H.perm List.perm_middle).tail
theorem Sb.own {w0 w : World} {A B : List HProp} (h : Sb A B) (H : Own w0 A w) : Own w0 B w := h.ownC [] H
section
variable {w0 w : World} {A R : List HProp} {X1 X2 X3 X4 X5 X6 : HProp}
theorem Own.sp1 (h : Spl A [X1] R) (H : Own w0 A w) : Own w0 (X1 :: R) w := H.perm h.perm
theorem Own.sp2 (h : Spl A [X1, X2] R) (H : Own w0 A w) : Own w0 (X1 :: X2 :: R) w := H.perm h.perm
theorem Own.sp3 (h : Spl A [X1, X2, X3] R) (H : Own w0 A w) : Own w0 (X1 :: X2 :: X3 :: R) w := H.perm h.perm
theorem Own.sp4 (h : Spl A [X1, X2, X3, X4] R) (H : Own w0 A w) : Own w0 (X1 :: X2 :: X3 :: X4 :: R) w := H.perm h.perm
theorem Own.sp5 (h : Spl A [X1, X2, X3, X4, X5] R) (H : Own w0 A w) : Own w0 (X1 :: X2 :: X3 :: X4 :: X5 :: R) w := H.perm h.perm
theorem Own.sp6 (h : Spl A [X1, X2, X3, X4, X5, X6] R) (H : Own w0 A w) : Own w0 (X1 :: X2 :: X3 :: X4 :: X5 :: X6 :: R) w := H.perm h.perm
end
/-- Block b's chunk stands in A; F builds what A is when it holds something else. -/
class CelUp (A : List HProp) (b : Nat) (vs : outParam (List Value)) (e : outParam TypeId) (F : outParam (List Value → List HProp)) : Prop where
  up : ∃ R, A.Perm (cel b vs e :: R) ∧ ∀ us, (cel b us e :: R).Perm (F us)
instance (priority := low) CelUp.tail {X : HProp} {A : List HProp} {b : Nat} {vs : List Value} {e : TypeId} {F : List Value → List HProp} [h : CelUp A b vs e F] : CelUp (X :: A) b vs e (fun us => X :: F us) := ⟨by
  obtain ⟨R, h1, h2⟩ := h.up
  exact ⟨X :: R, (h1.cons _).trans (.swap _ _ _), fun us => (List.Perm.swap _ _ _).trans ((h2 us).cons _)⟩⟩
instance CelUp.head {A : List HProp} {b : Nat} {vs : List Value} {e : TypeId} : CelUp (cel b vs e :: A) b vs e (fun us => cel b us e :: A) := ⟨A, .refl _, fun _ => .refl _⟩
class RowUp (A : List HProp) (base : Option Addr) (c s : outParam Nat) (e : outParam TypeId) (vs : outParam (List Value)) (F : outParam (Option Addr → Nat → List Value → List HProp)) : Prop where
  up : ∃ R, A.Perm (row base c s e vs :: R) ∧ ∀ b2 c2 us, (row b2 c2 s e us :: R).Perm (F b2 c2 us)
instance (priority := low) RowUp.tail {X : HProp} {A : List HProp} {base : Option Addr} {c s : Nat} {e : TypeId} {vs : List Value} {F : Option Addr → Nat → List Value → List HProp} [h : RowUp A base c s e vs F] : RowUp (X :: A) base c s e vs (fun b2 c2 us => X :: F b2 c2 us) := ⟨by
  obtain ⟨R, h1, h2⟩ := h.up
  exact ⟨X :: R, (h1.cons _).trans (.swap _ _ _), fun b2 c2 us => (List.Perm.swap _ _ _).trans ((h2 b2 c2 us).cons _)⟩⟩
instance RowUp.head {A : List HProp} {base : Option Addr} {c s : Nat} {e : TypeId} {vs : List Value} : RowUp (row base c s e vs :: A) base c s e vs (fun b2 c2 us => row b2 c2 s e us :: A) := ⟨A, .refl _, fun _ _ _ => .refl _⟩
class MpUp (A : List HProp) (m : Nat) (d : outParam TypeDesc) (ps : outParam (List (Value × Value))) (F : outParam (List (Value × Value) → List HProp)) : Prop where
  up : ∃ R, A.Perm (mp d m ps :: R) ∧ ∀ us, (mp d m us :: R).Perm (F us)
instance (priority := low) MpUp.tail {X : HProp} {A : List HProp} {m : Nat} {d : TypeDesc} {ps : List (Value × Value)} {F : List (Value × Value) → List HProp} [h : MpUp A m d ps F] : MpUp (X :: A) m d ps (fun us => X :: F us) := ⟨by
  obtain ⟨R, h1, h2⟩ := h.up
  exact ⟨X :: R, (h1.cons _).trans (.swap _ _ _), fun us => (List.Perm.swap _ _ _).trans ((h2 us).cons _)⟩⟩
instance MpUp.head {A : List HProp} {m : Nat} {d : TypeDesc} {ps : List (Value × Value)} : MpUp (mp d m ps :: A) m d ps (fun us => mp d m us :: A) := ⟨A, .refl _, fun _ => .refl _⟩
/-- Of this class: C. -/
class GoodC (Good : (World → Prop) → Prop) (C : World → Prop) : Prop where
  good : Good C
class Cov (A R : List HProp) : Prop where
  cov : ∃ g, A.Perm (g ++ R)
instance Cov.same {A : List HProp} : Cov A A := ⟨[], .refl _⟩
instance (priority := low) Cov.drop {X : HProp} {A R : List HProp} [h : Cov A R] : Cov (X :: A) R := ⟨let ⟨g, hg⟩ := h.cov; ⟨X :: g, hg.cons _⟩⟩
instance (priority := low) Cov.keep {X : HProp} {A R : List HProp} [h : Cov A R] : Cov (X :: A) (X :: R) := ⟨let ⟨g, hg⟩ := h.cov; ⟨g, (hg.cons _).trans List.perm_middle.symm⟩⟩
instance (priority := low) Cov.app {G A R : List HProp} [h : Cov A R] : Cov (G ++ A) R := ⟨let ⟨g, hg⟩ := h.cov; ⟨G ++ g, by rw [List.append_assoc]; exact List.Perm.append_left G hg⟩⟩
instance GoodC.top {C : World → Prop} : GoodC (fun _ => True) C := ⟨trivial⟩
instance GoodC.frame {w0 : World} {A R : List HProp} [h : Cov A R] : GoodC (GoodF w0 (fun g => g ++ R)) (Own w0 A) := ⟨let ⟨g, hg⟩ := h.cov; ⟨g, own_perm hg⟩⟩
theorem Spl.cov {A l R : List HProp} (h : Spl A l R) : ∃ g, A.Perm (g ++ R) := ⟨l, h.perm⟩
section
variable {P : Program} {w0 : World} {n : Nat} {ops : Array Oper} {Q : Exit → Act → World → Prop} {ρ : Env} {A A' R : List HProp} {rest : List Oper} {T : TypeId} {pos : String} {af : Array Edge} {x y z : Operand} {t e kt et : TypeId} {vs : List Value} {v k : Value} {b i d : Nat} {dd : Option Tmp} {base : Option Addr} {c s j m : Nat}
/-- a store into a chunk, wherever it stands -/
theorem stp {vs' : List Value} {F : List Value → List HProp} (ht : plainT P t = true) (hs : sizeT P t 1 = true) (hx : ev n ρ x = .pointer (some ⟨b, i, none⟩)) (hv : ev n ρ y = v) (h1 : v.oneCell' = true) [hc : CelUp A b vs e F] [hi : SetNth vs i v vs']
    (h : WL P w0 n ops Q rest ρ (F vs')) : WL P w0 n ops Q (⟨none, .store t x y, T, pos, af, none⟩ :: rest) ρ A := by
  obtain ⟨R, h1', h2⟩ := hc.up
  exact (stc (e := e) ht hs hx hv h1 (h.perm fun _ H => H.perm (h2 vs'))).perm fun _ H => H.perm h1'
/-- a struct or an array stored whole, wherever it stands -/
theorem stAp {old cs : List Value} {F : List Value → List HProp} (hs : sizeT P t s = true) (hx : ev n ρ x = .pointer (some ⟨b, 0, none⟩)) (hv : ev n ρ y = .agg cs.toArray) (hl : cs.length = s) (h1 : ∀ v ∈ cs, v.oneCell' = true) [hc : CelUp A b old e F] (ho : old.length = s)
    (h : WL P w0 n ops Q rest ρ (F cs)) : WL P w0 n ops Q (⟨none, .store t x y, T, pos, af, none⟩ :: rest) ρ A := by
  obtain ⟨R, h1', h2⟩ := hc.up
  exact (stA (old := old) (e := e) hs hx hv hl ho h1 (h.perm fun _ H => H.perm (h2 cs))).perm fun _ H => H.perm h1'
theorem strp {F : Option Addr → Nat → List Value → List HProp} (ht : plainT P t = true) (hs : sizeT P t 1 = true) (hx : ev n ρ x = .pointer (base.map (·.add j))) (hv : ev n ρ y = v) (h1 : v.oneCell' = true) [hc : RowUp A base c s e vs F] (hj : j < vs.length)
    (h : WL P w0 n ops Q rest ρ (F base c (vs.set j v))) : WL P w0 n ops Q (⟨none, .store t x y, T, pos, af, none⟩ :: rest) ρ A := by
  obtain ⟨R, h1', h2⟩ := hc.up
  exact (str (e := e) (c := c) (s := s) ht hs hx hv h1 hj (h.perm fun _ H => H.perm (h2 _ _ _))).perm fun _ H => H.perm h1'
/-- a struct stored into a row, wherever it stands -/
theorem staRp {cs vs' : List Value} {sz : Nat} {F : Option Addr → Nat → List Value → List HProp} (hs : sizeT P t sz = true) (hx : ev n ρ x = .pointer (base.map (·.add j))) (hv : ev n ρ y = .agg cs.toArray) (h1 : cs.all (·.oneCell') = true) (hk : Nat.beq cs.length sz = true) [hc : RowUp A base c s e vs F] (h0 : 0 < sz) (hj : j + cs.length ≤ vs.length) (hset : splice vs j cs = vs')
    (h : WL P w0 n ops Q rest ρ (F base c vs')) : WL P w0 n ops Q (⟨none, .store t x y, T, pos, af, none⟩ :: rest) ρ A := by
  obtain ⟨R, h1', h2⟩ := hc.up
  subst hset
  have hk' := Nat.eq_of_beq_eq_true hk
  refine WL.perm (A' := row base c s e vs :: R) ⟨fun w hw => ?_⟩ (fun _ H => H.perm h1')
  rcases hw.row with ⟨_, rfl, _⟩ | ⟨g, o, cur, rfl, hp, hl, hcm, hO⟩
  · simp only [List.length_nil] at hj; omega
  · obtain ⟨tl, htl⟩ := hp
    have hlc : cur.length - o = vs.length + tl.length := by have := congrArg List.length htl; rw [List.length_append, List.length_drop] at this; omega
    have hfit : o + j + cs.length ≤ cur.length := by have := hl.1; have := hl.2; omega
    have e1 : (splice cur (o + j) cs).drop o = splice vs j cs ++ tl := by
      have e2 : (cur.drop o).take j = vs.take j := by rw [← htl, List.take_append_of_le_length (by omega)]
      have e3 : cur.drop (o + j + cs.length) = vs.drop (j + cs.length) ++ tl := by
        rw [show o + j + cs.length = o + (j + cs.length) by omega, ← List.drop_drop, ← htl, List.drop_append_of_le_length (by omega)]
      unfold splice
      rw [e3, List.append_assoc, List.drop_append_of_le_length (by rw [List.length_take]; omega), List.drop_take, Nat.add_sub_cancel_left, e2]
      simp only [List.append_assoc]
    refine (sta (vs := cur) (off := o + j) (e := e) hs (by rw [hx]; simp only [Option.map_some, add_at]) hv h1 hk (by omega) (pm (fun w hw => ?_) h)).run w hO
    have h3 : Own w0 (row (some ⟨g, o, none⟩) c s e (splice vs j cs) :: R) w := hw.intro_rowo ⟨tl, e1.symm⟩ ⟨by rw [splice_length hj]; exact hl.1, by rw [splice_length (by omega)]; exact hl.2⟩ hcm
    exact h3.perm (h2 _ _ _)
theorem mpup {dk : TypeDesc} {ps ps' : List (Value × Value)} {F : List (Value × Value) → List HProp} (ht : P.underlying t = some (.map kt et)) (hd : P.underlying kt = some dk) (hx : ev n ρ x = .map (some m)) (hy : ev n ρ y = k) (hz : ev n ρ z = v) (hk : IsKey dk k) [hc : MpUp A m dk ps F] (hj : PutE ps k v ps')
    (h : WL P w0 n ops Q rest ρ (F ps')) : WL P w0 n ops Q (⟨none, .mapUpdate t x y z, T, pos, af, none⟩ :: rest) ρ A := by
  obtain ⟨R, h1', h2⟩ := hc.up
  exact (mpu ht hd hx hy hz hk hj (h.perm fun _ H => H.perm (h2 _))).perm fun _ H => H.perm h1'
theorem insp {dk : TypeDesc} {ps ps' : List (Value × Value)} {F : List (Value × Value) → List HProp} (ht : P.underlying t = some (.map kt et)) (hd : P.underlying kt = some dk) (hx : ev n ρ x = .map (some m)) (hy : ev n ρ y = k) (hz : ev n ρ z = v) (hk : IsKey dk k) [hc : MpUp A m dk ps F] (hj : PutE ps k v ps')
    (h : WL P w0 n ops Q rest ρ (F ps')) : WL P w0 n ops Q (⟨none, .insert t x y z, T, pos, af, none⟩ :: rest) ρ A := by
  obtain ⟨R, h1', h2⟩ := hc.up
  exact (ins ht hd hx hy hz hk hj (h.perm fun _ H => H.perm (h2 _))).perm fun _ H => H.perm h1'
theorem vfldp {f off : Nat} {g : Option (Nat × Bool)} (hf : fieldT P t f off = true) (hx : ev n ρ x = .pointer (some ⟨b, i, none⟩)) : Val P w0 n ρ A ⟨dd, .fieldAddr t x f, T, pos, af, g⟩ (.pointer (some ⟨b, i + off, none⟩)) := by
  rw [← add_at]; exact vfld hf hx
theorem vfldpz {f : Nat} {g : Option (Nat × Bool)} (hf : fieldT P t f 0 = true) (hx : ev n ρ x = .pointer (some ⟨b, i, none⟩)) : Val P w0 n ρ A ⟨dd, .fieldAddr t x f, T, pos, af, g⟩ (.pointer (some ⟨b, i, none⟩)) := by
  have := vfld (P := P) (w0 := w0) (A := A) (d := dd) (T := T) (pos := pos) (af := af) (g := g) hf hx
  simpa only [add_at, Nat.add_zero] using this
theorem vixap {kk : IntKind} {ix : Int} {N : Nat} {g : Option (Nat × Bool)} (ht : P.underlying t = some (.array N e)) (hs : sizeT P e 1 = true) (hx : ev n ρ x = .pointer (some ⟨b, i, none⟩)) (hy : ev n ρ y = .int kk ix) (h0 : 0 ≤ ix) (h1 : ix < N) :
    Val P w0 n ρ A ⟨dd, .indexAddr t x y, T, pos, af, g⟩ (.pointer (some ⟨b, i + ix.toNat, none⟩)) := by
  have := vixa (P := P) (w0 := w0) (A := A) (d := dd) (T := T) (pos := pos) (af := af) (g := g) ht hs hx hy h0 h1
  simpa only [add_at, Nat.mul_one] using this
/-- a struct loaded out of the middle of a block -/
theorem vldap {g : Option (Nat × Bool)} {cs : List Value} (ht : aggT P t = true) (hs : sizeT P t s = true) (hx : ev n ρ x = .pointer (some ⟨b, i, none⟩)) [hc : CelAt A b vs e] (hag : (vs.drop i).take s = cs) (hl : cs.length = s) (h0 : 0 < s) : Val P w0 n ρ A ⟨dd, .load t x, T, pos, af, g⟩ (.agg cs.toArray) := by
  have hR : RdC w0 A (some ⟨b, 0, none⟩) vs := RdC.of_cel 0 hc.mem (by simp)
  exact vlda (base := some ⟨b, 0, none⟩) (j := i) ht hs (by rw [hx]; simp only [Option.map_some, add_at, Nat.zero_add]) hR hag hl h0
/-- a store whose place is reckoned -/
theorem stq {vs' : List Value} {F : List Value → List HProp} (ht : plainT P t = true) (hs : sizeT P t 1 = true) (hx : ev n ρ x = .pointer (some ⟨b, i, none⟩)) (hv : ev n ρ y = v) (h1 : v.oneCell' = true) [hc : CelUp A b vs e F] (hi : i < vs.length) (hset : vs.set i v = vs')
    (h : WL P w0 n ops Q rest ρ (F vs')) : WL P w0 n ops Q (⟨none, .store t x y, T, pos, af, none⟩ :: rest) ρ A :=
  have : SetNth vs i v vs' := ⟨hset, hi⟩
  stp ht hs hx hv h1 h
theorem staq {old cs vs' : List Value} {F : List Value → List HProp} (hs : sizeT P t s = true) (hx : ev n ρ x = .pointer (some ⟨b, i, none⟩)) (hv : ev n ρ y = .agg cs.toArray) (h1 : cs.all (·.oneCell') = true) (hk : Nat.beq cs.length s = true) [hc : CelUp A b old e F] (ho : i + cs.length ≤ old.length) (hset : splice old i cs = vs')
    (h : WL P w0 n ops Q rest ρ (F vs')) : WL P w0 n ops Q (⟨none, .store t x y, T, pos, af, none⟩ :: rest) ρ A := by
  obtain ⟨R, h1', h2⟩ := hc.up
  subst hset
  exact (sta (e := e) hs hx hv h1 hk ho (h.perm fun _ H => H.perm (h2 _))).perm fun _ H => H.perm h1'
/-! calls -/
variable {ι : Type} {pr : ι → Prop} {val : ι → Value} {post : ι → List HProp} {f : FuncId} {aops : List Operand} {args cap : List Value} {tys : Array TypeId} {l0 : List Oper} {bs : List Nat × List Nat} {Good : (World → Prop) → Prop}
theorem clx (hA : Sb A A') (hs : Fun P w0 f args A' (Ret w0 pr val post)) (hc : callT P f = true) (ha : evs n ρ aops = args)
    (h : ∀ i, pr i → WL P w0 n ops Q rest (set ρ d (val i)) (post i)) : WL P w0 n ops Q (⟨some d, .call ⟨.value (.func f), aops.toArray, tys⟩, T, pos, af, none⟩ :: rest) ρ A := (cl hs hc ha h).perm fun _ H => hA.own H
theorem clx0 (hA : Sb A A') (hs : Fun P w0 f args A' (Ret w0 pr val post)) (hc : callT P f = true) (ha : evs n ρ aops = args)
    (h : ∀ i, pr i → WL P w0 n ops Q rest ρ (post i)) : WL P w0 n ops Q (⟨none, .call ⟨.value (.func f), aops.toArray, tys⟩, T, pos, af, none⟩ :: rest) ρ A := (cl0 hs hc ha h).perm fun _ H => hA.own H
theorem clvx (hA : Sb A A') (hs : Fun P w0 f (args ++ cap) A' (Ret w0 pr val post)) (hc : callT P f = true) (hx : ev n ρ x = .func (.func f) #[] cap.toArray) (ha : evs n ρ aops = args)
    (h : ∀ i, pr i → WL P w0 n ops Q rest (set ρ d (val i)) (post i)) : WL P w0 n ops Q (⟨some d, .call ⟨.value x, aops.toArray, tys⟩, T, pos, af, none⟩ :: rest) ρ A := (clv hs hc hx ha h).perm fun _ H => hA.own H
theorem clvxz (hA : Sb A A') (hs : Fun P w0 f args A' (Ret w0 pr val post)) (hc : callT P f = true) (hx : ev n ρ x = .func (.func f) #[] #[]) (ha : evs n ρ aops = args)
    (h : ∀ i, pr i → WL P w0 n ops Q rest (set ρ d (val i)) (post i)) : WL P w0 n ops Q (⟨some d, .call ⟨.value x, aops.toArray, tys⟩, T, pos, af, none⟩ :: rest) ρ A := (clv (cap := []) (by rw [List.append_nil]; exact hs) hc hx ha h).perm fun _ H => hA.own H
/-- a quiet call that asks for some of the chunks -/
theorem Fun.sb {R : Ending → World → Prop} (hA : Sb A A') (hs : Fun P w0 f args A' R) : Fun P w0 f args A R := hs.perm fun _ H => hA.own H
theorem Quiet.spl {X R : List HProp} {v : Value} (h : Spl A X R) (hs : Fun P w0 f args (X ++ R) (Ret w0 (fun _ : Unit => True) (fun _ => v) (fun _ => X ++ R))) : Quiet P w0 f args A v :=
  (hs.perm fun _ H => H.perm h.perm).mono fun e w ⟨_, _, he, hO⟩ => ⟨he, hO.perm h.perm.symm⟩
/-! plans whose frames are found -/
theorem WPl.oneE {is : List Nat} {e : Nat} {p : Plan} (hF : ∀ g, GoodC Good (Own w0 (g ++ A)))
    (h : WD P w0 n l0.toArray (fun g => g ++ A) (fun ρ' => wantN n ρ' l0 e = true ∧ WL P w0 n l0.toArray (Br P w0 n l0 bs Q (fun g => g ++ A) p) [nthD l0 e] ρ' A) (pickL l0 is) ρ) : WPl P w0 n l0 bs Q Good (.one is e p) ρ A :=
  WPl.one (fun g => g ++ A) [] (fun g => (hF g).good) rfl h
theorem WPl.oneX {is : List Nat} {e : Nat} {p : Plan} (X : List HProp) {R : List HProp} (hX : Spl A X R) (hF : ∀ g, GoodC Good (Own w0 (g ++ R)))
    (h : WD P w0 n l0.toArray (fun g => g ++ R) (fun ρ' => wantN n ρ' l0 e = true ∧ WL P w0 n l0.toArray (Br P w0 n l0 bs Q (fun g => g ++ R) p) [nthD l0 e] ρ' A) (pickL l0 is) ρ) : WPl P w0 n l0 bs Q Good (.one is e p) ρ A :=
  WPl.one (fun g => g ++ R) X (fun g => (hF g).good) (own_perm hX.perm) h
theorem WPl.barC {is : List Nat} {e : Nat} {p : Plan} [hG : GoodC Good (Own w0 A)]
    (h : WD P w0 n l0.toArray (fun _ => A) (fun ρ' => wantN n ρ' l0 e = true ∧ WL P w0 n l0.toArray (BrT P w0 n l0 bs Q p) [nthD l0 e] ρ' A) (pickL l0 is) ρ) : WPl P w0 n l0 bs Q Good (.bar is e p) ρ A := WPl.bar hG.good h
theorem WPl.finC {is : List Nat} [hG : GoodC Good (Own w0 A)] (h : WD P w0 n l0.toArray (fun _ => A) (fun ρ' => WX w0 n Q .normal ρ' A) (pickL l0 is) ρ) : WPl P w0 n l0 bs Q Good (.done is) ρ A := WPl.fin hG.good h
theorem WPl.preC {is : List Nat} {p : Plan} [hG : GoodC Good (Own w0 A)] (h : WD P w0 n l0.toArray (fun _ => A) (fun ρ' => WPl P w0 n l0 bs Q Good p ρ' A) (pickL l0 is) ρ) : WPl P w0 n l0 bs Q Good (.pre is p) ρ A := WPl.pre hG.good h
end
/-! ### Arrays written out -/
def fillR (size : Nat) : List Value → List (Nat × Value) → Option (List Value)
  | cs, [] => some cs
  | cs, (i, v) :: rest => if v.cells.size ≠ size || i * size + v.cells.size > cs.length then none else fillR size (splice cs (i * size) v.cells.toList) rest
theorem fill_fillR (size : Nat) : ∀ (ps : List (Nat × Value)) (cs : Array Value), Instr.fill (fun i => some (i * size, size)) cs ps = (fillR size cs.toList ps).map List.toArray
  | [], cs => by simp [Instr.fill, fillR]
  | (i, v) :: rest, cs => by
    simp only [Instr.fill, fillR, Array.length_toList]
    split
    · rfl
    · rename_i hne
      have h2 : i * size + v.cells.size ≤ cs.size := by
        simp only [Bool.or_eq_true, decide_eq_true_eq, not_or] at hne; omega
      have := foldl_splice v.cells.toList cs (i * size) 0 (by simpa using h2)
      have e : v.cells.zipIdx.foldl (fun (cs : Array Value) (x : Value × Nat) => cs.setIfInBounds (i * size + x.2) x.1) cs = (splice cs.toList (i * size) v.cells.toList).toArray := by
        rw [← Array.foldl_toList]
        simpa using this
      have e' : (Array.foldl (fun cs x => match x with | (c, j) => cs.setIfInBounds (i * size + j) c) cs v.cells.zipIdx) = (splice cs.toList (i * size) v.cells.toList).toArray := e
      rw [e']
      have ih := fill_fillR size rest (splice cs.toList (i * size) v.cells.toList).toArray
      simpa using ih
theorem vbdR {P : Program} {w0 : World} {n : Nat} {ρ : Env} {A : List HProp} {dd : Option Tmp} {t T e : TypeId} {pos : String} {af : Array Edge} {g : Option (Nat × Bool)} {N sz s by_ : Nat} {zv : Value} {parts : List (Nat × Operand)} {ps : List (Nat × Value)} {cs : List Value} (ht : P.underlying t = some (.array N e)) (hs : sizeT P e sz = true) (hz : zeroT P t zv s by_) (hp : partsL n ρ parts = ps) (hf : fillR sz zv.cells.toList ps = some cs) :
    Val P w0 n ρ A ⟨dd, .build t parts.toArray, T, pos, af, g⟩ (.agg cs.toArray) := fun w _ => by
  obtain ⟨i, h2, h3, _, _⟩ := hz
  have hpl : ∀ l : List (Nat × Operand), l.map (fun p => (p.1, ev n ρ p.2)) = partsL n ρ l := by
    intro l; induction l with
    | nil => rfl
    | cons x l ih => simp [partsL, ih]
  have hp' : (parts.toArray.map fun (i, x) => (i, ev n ρ x)).toList = ps := by rw [← hp, ← hpl]; simp
  simp only [execOp, Instr.build, Sem.run_bind, run_underlying ht, Result.andThen_ok, zeroValue, typeInfo, run_program, h2, Sem.run_pure, h3, run_sizeOf_of hs, hp', fill_fillR, hf, Option.map_some]
theorem WL.known {P : Program} {w0 : World} {n : Nat} {ops : Array Oper} {Q : Exit → Act → World → Prop} {l : List Oper} {ρ : Env} {A : List HProp} {p : Prop} (hp : ∀ w, Own w0 A w → p) (h : p → WL P w0 n ops Q l ρ A) : WL P w0 n ops Q l ρ A := ⟨fun w hw => (h (hp w hw)).run w hw⟩
/-! ### Cuts and loops that leave the chunks -/
section
variable {P : Program} {w0 : World} {n : Nat} {Q : Exit → Act → World → Prop} {ρ : Env} {A : List HProp} {x y c : Code}
theorem WC.cutS (C V : List (Nat × Value)) (h0 : AllC V ρ) (hx : WC P w0 n x (Exit.then (Mid w0 n (fun _ : Unit => C) V (fun _ => A) (fun _ => True)) Q) ρ A) (hy : ∀ ρh, WC P w0 n y Q (setL C (setL V ρh)) A) : WC P w0 n (.seq x y) Q ρ A := WC.cut0 C V A h0 hx hy
theorem WC.cutvS {ι : Type} (C : ι → List (Nat × Value)) (V : List (Nat × Value)) (R : ι → Prop) (h0 : AllC V ρ) (hx : WC P w0 n x (Exit.then (Mid w0 n C V (fun _ => A) R) Q) ρ A) (hy : ∀ i, R i → ∀ ρh, WC P w0 n y Q (setL (C i) (setL V ρh)) A) : WC P w0 n (.seq x y) Q ρ A := WC.cutv C V (fun _ => A) R h0 hx hy
theorem WC.loopS {ι : Type} (C : ι → List (Nat × Value)) (V : List (Nat × Value)) (R : ι → Prop) (μ : ι → Nat) (i0 : ι) (hR : R i0) (hC : AllC (C i0) ρ) (hV : AllC V ρ)
    (round : ∀ i, R i → ∀ ρh, WC P w0 n c (Exit.then (Mid w0 n C V (fun _ => A) (fun j => R j ∧ μ j < μ i)) Q) (setL (C i) (setL V ρh)) A) : WC P w0 n (.loop c) Q ρ A := WC.loop C V (fun _ => A) R μ i0 hR hC hV (fun _ h => h) round
end
end Go.Sl
