/-
  Structs of numbers, texts and bools compared. Plain theorems over any program.
-/
import Derived.Test.YtoeglkkmjmhmiaaDoorSlAuto
import Derived.Laws.StructEq
set_option linter.unusedVariables false
set_option linter.unusedSimpArgs false
namespace Go.Sl
open Go.RowKit

inductive EK
  | int
  | str
  | bool
def ekOf (P : Program) (t : TypeId) : Option EK := match P.underlying t with
  | some (.int _) => some .int
  | some .string => some .str
  | some .bool => some .bool
  | _ => none
def eksL (P : Program) : List Field → Option (List (Nat × EK))
  | [] => some []
  | f :: fs => if f.name == "_" then none else match ekOf P f.type, eksL P fs with
    | some k, some l => some ((f.offset, k) :: l)
    | _, _ => none
def eqT (P : Program) (t : TypeId) : Option (List (Nat × EK)) := match P.underlying t with
  | some (.struct fs) => if P.stoodInHeld t || P.eqGuardType P.depth t then none else eksL P fs.toList
  | _ => none
def eqV (xs ys : List Value) : List (Nat × EK) → Option Bool
  | [] => some true
  | (o, k) :: l => match k, xs[o]?, ys[o]? with
    | .int, some (.int k a), some (.int k' b) => if k = k' then (eqV xs ys l).map (decide (a = b) && ·) else none
    | .str, some (.string a), some (.string b) => (eqV xs ys l).map (decide (a = b) && ·)
    | .bool, some (.bool a), some (.bool b) => (eqV xs ys l).map (decide (a = b) && ·)
    | _, _, _ => none
theorem part_ek {P : Program} {t : TypeId} {k : EK} (h : ekOf P t = some k) {xs : List Value} {o : Nat} {v : Value} (hv : xs[o]? = some v) (w : World) : (part t xs.toArray o).run P w = .ok v w := by
  have hp : plainT P t = true := by
    unfold ekOf at h
    unfold plainT
    cases hu : P.underlying t with
    | none => simp [hu] at h
    | some d => cases d <;> simp [hu] at h ⊢
  simp [part, run_isAgg_of hp, hv]
theorem eqs_of {P : Program} {xs ys : List Value} : ∀ {fs : List Field} {l : List (Nat × EK)} {b : Bool} (w : World), eksL P fs = some l → eqV xs ys l = some b → (Op.eqFields 9999 xs.toArray ys.toArray fs).run P w = .ok b w
  | [], l, b, w, h, hv => by
    simp [eksL] at h; subst h
    simp [eqV] at hv; subst hv
    rfl
  | f :: fs, l, b, w, h, hv => by
    unfold eksL at h
    split at h
    · cases h
    · rename_i hn
      have hn' : f.name ≠ "_" := by simpa using hn
      split at h
      · rename_i k l' hk hl
        cases h
        unfold eqV at hv
        split at hv
        · rename_i o k1 k2 a k3 b' hx hy
          split at hv
          · rename_i hkk
            subst hkk
            obtain ⟨r, hr, rfl⟩ := Option.map_eq_some_iff.1 hv
            have hu : ∃ kk, P.underlying f.type = some (.int kk) := by
              unfold ekOf at hk
              split at hk <;> first | exact ⟨_, by assumption⟩ | cases hk
            obtain ⟨kk, hu⟩ := hu
            have ih := eqs_of (xs := xs) (ys := ys) w hl hr
            have e := run_equalIn_int (P := P) w 9998 f.type k2 kk a b' hu
            simp only [Op.eqFields, if_pos hn', Sem.run_bind, part_ek hk hx, part_ek hk hy, Result.andThen_ok, e]
            by_cases hab : a = b'
            · subst hab
              simp only [beq_self_eq_true, Bool.not_true, Bool.false_eq_true, if_false, decide_true, Bool.true_and]
              exact ih
            · have : (a == b') = false := by simpa using hab
              simp [this, hab]
          · cases hv
        · rename_i o a b' hx hy
          obtain ⟨r, hr, rfl⟩ := Option.map_eq_some_iff.1 hv
          have hu : P.underlying f.type = some .string := by
            unfold ekOf at hk
            split at hk <;> first | assumption | cases hk
          have ih := eqs_of (xs := xs) (ys := ys) w hl hr
          have e := run_equalIn_string (P := P) w 9998 f.type a b' hu
          have hbb : (a.toList == b'.toList) = decide (a = b') := by
            rw [← beq_toListBytes]
            by_cases hab : a = b'
            · subst hab
              rw [decide_eq_true rfl, beq_toListBytes]
              exact beq_self_eq_true _
            · rw [decide_eq_false hab, Bool.eq_false_iff]
              intro he
              rw [beq_toListBytes] at he
              have h1 : a.toList = b'.toList := by simpa using he
              rw [ByteArray.toList_eq, ByteArray.toList_eq] at h1
              exact hab (ByteArray.ext (Array.toList_inj.1 h1))
          rw [hbb] at e
          simp only [Op.eqFields, if_pos hn', Sem.run_bind, part_ek hk hx, part_ek hk hy, Result.andThen_ok, e]
          by_cases hab : a = b'
          · subst hab
            simp only [decide_true, Bool.not_true, Bool.false_eq_true, if_false, Bool.true_and]
            exact ih
          · simp [hab]
        · rename_i o a b' hx hy
          obtain ⟨r, hr, rfl⟩ := Option.map_eq_some_iff.1 hv
          have hu : P.underlying f.type = some .bool := by
            unfold ekOf at hk
            split at hk <;> first | assumption | cases hk
          have ih := eqs_of (xs := xs) (ys := ys) w hl hr
          have e := run_equalIn_bool' (P := P) w 9998 f.type a b' hu
          simp only [Op.eqFields, if_pos hn', Sem.run_bind, part_ek hk hx, part_ek hk hy, Result.andThen_ok, e]
          by_cases hab : a = b'
          · subst hab
            simp only [beq_self_eq_true, Bool.not_true, Bool.false_eq_true, if_false, decide_true, Bool.true_and]
            exact ih
          · have : (a == b') = false := by simpa using hab
            simp [this, hab]
        · cases hv
      · cases h
theorem run_eqT {P : Program} {t : TypeId} {l : List (Nat × EK)} {xs ys : List Value} {b : Bool} (h : eqT P t = some l) (hv : eqV xs ys l = some b) (w : World) : P.eqGuardType P.depth t = false ∧ (Op.equalIn 10000 t (.agg xs.toArray) (.agg ys.toArray)).run P w = .ok b w := by
  unfold eqT at h
  split at h
  · rename_i fs hu
    split at h
    · cases h
    · rename_i hn
      simp only [Bool.or_eq_true, not_or, Bool.not_eq_true] at hn
      have hf : P.fieldsOf t = fs := by simp [Program.fieldsOf, hu]
      refine ⟨hn.2, ?_⟩
      rw [run_equalIn_struct w 9999 t _ _ (by rw [hf]; exact hu) hn.1, hf]
      exact eqs_of w h hv
  · cases h
def fieldV (P : Program) (s f off : Nat) : Bool := match P.underlying s with
  | some (.struct fs) => match fs[f]? with
    | some x => Nat.beq x.offset off && plainT P x.type
    | none => false
  | _ => false
theorem run_fieldV {P : Program} {s f off : Nat} (h : fieldV P s f off = true) {cs : List Value} {v : Value} (hv : cs[off]? = some v) (w : World) : (Instr.field s (.agg cs.toArray) f).run P w = .ok v w := by
  unfold fieldV at h
  split at h
  · rename_i fs hd
    split at h
    · rename_i x hx
      rw [Bool.and_eq_true] at h
      have h1 := Nat.eq_of_beq_eq_true h.1
      subst h1
      have hp : (part x.type cs.toArray x.offset).run P w = .ok v w := by simp [part, run_isAgg_of h.2, hv]
      simp [Instr.field, run_underlying hd, hx, asAgg, hp]
    · cases h
  · cases h
section
variable {P : Program} {w0 : World} {n : Nat} {ρ : Env} {A : List HProp} {dd : Option Tmp} {t t2 T : TypeId} {x y : Operand} {pos : String} {af : Array Edge} {g : Option (Nat × Bool)} {xs ys : List Value} {l : List (Nat × EK)} {b : Bool}
theorem veqA (h : eqT P t = some l) (hx : ev n ρ x = .agg xs.toArray) (hy : ev n ρ y = .agg ys.toArray) (hv : eqV xs ys l = some b) : Val P w0 n ρ A ⟨dd, .binOp .eql t x y t2, T, pos, af, g⟩ (.bool b) := fun w _ => by
  obtain ⟨h1, h2⟩ := run_eqT h hv w
  have h3 := run_eqGuard_agg (P := P) w .eql t x y xs.toArray ys.toArray h1
  simp only [execOp, hx, hy, Sem.run_bind, h3, Result.andThen_ok, run_eql_struct, h2, Sem.run_pure]
theorem vneA (h : eqT P t = some l) (hx : ev n ρ x = .agg xs.toArray) (hy : ev n ρ y = .agg ys.toArray) (hv : eqV xs ys l = some b) : Val P w0 n ρ A ⟨dd, .binOp .neq t x y t2, T, pos, af, g⟩ (.bool (!b)) := fun w _ => by
  obtain ⟨h1, h2⟩ := run_eqT h hv w
  have h3 := run_eqGuard_agg (P := P) w .neq t x y xs.toArray ys.toArray h1
  simp only [execOp, hx, hy, Sem.run_bind, h3, Result.andThen_ok, run_neq_struct, h2, Sem.run_pure]
theorem veqT (h : eqT P t = some l) (hx : ev n ρ x = .agg xs.toArray) (hy : ev n ρ y = .agg ys.toArray) (hv : eqV xs ys l = some true) : Val P w0 n ρ A ⟨dd, .binOp .eql t x y t2, T, pos, af, g⟩ (.bool true) := veqA h hx hy hv
theorem veqF (h : eqT P t = some l) (hx : ev n ρ x = .agg xs.toArray) (hy : ev n ρ y = .agg ys.toArray) (hv : eqV xs ys l = some false) : Val P w0 n ρ A ⟨dd, .binOp .eql t x y t2, T, pos, af, g⟩ (.bool false) := veqA h hx hy hv
theorem vneF (h : eqT P t = some l) (hx : ev n ρ x = .agg xs.toArray) (hy : ev n ρ y = .agg ys.toArray) (hv : eqV xs ys l = some true) : Val P w0 n ρ A ⟨dd, .binOp .neq t x y t2, T, pos, af, g⟩ (.bool false) := vneA h hx hy hv
theorem vneT (h : eqT P t = some l) (hx : ev n ρ x = .agg xs.toArray) (hy : ev n ρ y = .agg ys.toArray) (hv : eqV xs ys l = some false) : Val P w0 n ρ A ⟨dd, .binOp .neq t x y t2, T, pos, af, g⟩ (.bool true) := vneA h hx hy hv
theorem vixar {base : Option Addr} {j : Nat} {kk : IntKind} {ix : Int} {N : Nat} {e : TypeId} {d : Option Tmp} (hb : base.isSome = true) (ht : P.underlying t = some (.array N e)) (hs : sizeT P e 1 = true) (hx : ev n ρ x = .pointer (base.map (·.add j))) (hy : ev n ρ y = .int kk ix) (h0 : 0 ≤ ix) (h1 : ix < N) :
    Val P w0 n ρ A ⟨d, .indexAddr t x y, T, pos, af, g⟩ (.pointer (base.map (·.add (j + ix.toNat)))) := by
  obtain ⟨a, rfl⟩ := Option.isSome_iff_exists.1 hb
  have := vixa (P := P) (w0 := w0) (A := A) (d := d) (T := T) (pos := pos) (af := af) (g := g) ht hs hx hy h0 h1
  rw [add_add', Nat.mul_one] at this
  exact this
/-- a field of a struct at hand -/
theorem vfd {f off : Nat} {cs : List Value} {v : Value} (hf : fieldV P t f off = true) (hx : ev n ρ x = .agg cs.toArray) (hv : cs[off]? = some v) : Val P w0 n ρ A ⟨dd, .field t x f, T, pos, af, g⟩ v := fun w _ => by
  simp [execOp, hx, run_fieldV hf hv]
end
end Go.Sl
