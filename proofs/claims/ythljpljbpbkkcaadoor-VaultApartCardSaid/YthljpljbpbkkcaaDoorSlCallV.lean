/-
  Quiet calls of function values. Plain theorems over any program.
-/
import Derived.Test.YthljpljbpbkkcaaDoorSlAuto
set_option linter.unusedVariables false
set_option linter.unusedSimpArgs false
namespace Go.Sl
open Go.RowKit
section
variable {P : Program} {w0 : World} {n : Nat} {ops : Array Oper} {Q : Exit → Act → World → Prop} {ρ : Env} {A : List HProp} {rest : List Oper} {T : TypeId} {pos : String} {af : Array Edge}
theorem qclv {k : Nat} {f : FuncId} {x : Operand} {aops : List Operand} {args cap : List Value} {tys : Array TypeId} {v : Value} (hs : Quiet P w0 f (args ++ cap) A v) (hc : callT P f = true) (hx : ev n ρ x = .func (.func f) #[] cap.toArray) (ha : evs n ρ aops = args)
    (h : WQ P w0 n ops Q rest (set ρ k v) A) : WQ P w0 n ops Q (⟨some k, .call ⟨.value x, aops.toArray, tys⟩, T, pos, af, none⟩ :: rest) ρ A := by
  refine ⟨?_⟩
  refine wpQuiet_step fun K hK => ?_
  simp only [Region.wanted, if_true]
  refine ⟨v, fun w hw => ?_, by rw [put_act]; exact hK _ h.run⟩
  unfold Oper.quietAt
  rw [eval_act, run_callv hc hx ha]
  exact ⟨rfl, hs.run w hw⟩
theorem qclvg {k g : Nat} {b : Bool} {f : FuncId} {x : Operand} {aops : List Operand} {args cap : List Value} {tys : Array TypeId} {v : Value} (hg : yieldN n ρ ops g = some b) (hs : Quiet P w0 f (args ++ cap) A v) (hc : callT P f = true) (hx : ev n ρ x = .func (.func f) #[] cap.toArray) (ha : evs n ρ aops = args)
    (h : WQ P w0 n ops Q rest (set ρ k v) A) : WQ P w0 n ops Q (⟨some k, .call ⟨.value x, aops.toArray, tys⟩, T, pos, af, some (g, b)⟩ :: rest) ρ A := by
  refine ⟨?_⟩
  refine wpQuiet_step fun K hK => ?_
  simp only [Region.wanted, act, yielded_arr, hg, beq_self_eq_true, if_true]
  refine ⟨v, fun w hw => ?_, by rw [← act, put_act]; exact hK _ h.run⟩
  unfold Oper.quietAt
  rw [← act, eval_act, run_callv hc hx ha]
  exact ⟨rfl, hs.run w hw⟩
theorem vaN {d : Option Tmp} {g : Option (Nat × Bool)} {x : Operand} (hx : ev n ρ x = .nilFunc) : Val P w0 n ρ A ⟨d, .assign x, T, pos, af, g⟩ .nilFunc := hx ▸ vas
theorem vmN {d : Option Tmp} {g : Option (Nat × Bool)} {x : Operand} (hx : ev n ρ x = .nilFunc) : Val P w0 n ρ A ⟨d, .move x, T, pos, af, g⟩ .nilFunc := hx ▸ vmv
/-- a piece of a string -/
theorem vsslLH {d : Option Tmp} {g : Option (Nat × Bool)} {t : TypeId} {s : ByteArray} {x y z : Operand} {k k' : IntKind} {lo hi : Int} (ht : P.underlying t = some .string) (hx : ev n ρ x = .string s) (hlo : ev n ρ y = .int k lo) (hhi : ev n ρ z = .int k' hi) (h0 : 0 ≤ lo) (h1 : lo ≤ hi) (h2 : hi ≤ s.size) :
    Val P w0 n ρ A ⟨d, .slice t x (some y) (some z) none, T, pos, af, g⟩ (.string (s.extract lo.toNat hi.toNat)) := fun w hw => by
  have h3 : 0 ≤ hi := by omega
  have h4 : lo ≤ (hi.toNat : Int) := by omega
  have h5 : ¬ max hi 0 < lo := by omega
  simp [h5, execOp, hx, hlo, hhi, Instr.sliceAt, run_underlying ht, Instr.slice, Instr.sliceBounds, Instr.sliceBound, asIntOf, h0, h2, h3, h4]
end
/-- a rune as a string -/
theorem vrun {P : Program} {w0 : World} {n : Nat} {ρ : Env} {A : List HProp} {T : TypeId} {pos : String} {af : Array Edge} {d : Option Tmp} {g : Option (Nat × Bool)} {src dst : TypeId} {x : Operand} {k2 : IntKind} {a : Int} (hs : P.underlying src = some (.int .i32)) (hd : P.underlying dst = some .string) (hx : ev n ρ x = .int k2 a) :
    Val P w0 n ρ A ⟨d, .convert src dst x, T, pos, af, g⟩ (.string (Utf8.encode a)) := fun w _ => by
  simp [execOp, hx, convert, run_underlying hs, run_underlying hd, Conv.intToString]
theorem run_eqf_d {P : Program} {t : TypeId} {a : Array TypeId} {b : Array TypeId} {c : Bool} (d : Nat) (ht : P.underlying t = some (.func a b c)) (w : World) : (Op.equalIn (d + 1) t .nilFunc .nilFunc).run P w = .ok true w := by
  simp [Op.equalIn, run_underlying ht]
theorem run_eqf {P : Program} {t : TypeId} {a : Array TypeId} {b : Array TypeId} {c : Bool} (ht : P.underlying t = some (.func a b c)) (w : World) : (Op.equal t .nilFunc .nilFunc).run P w = .ok true w := run_eqf_d 9999 ht w
theorem run_eqfn_d {P : Program} {t : TypeId} {a : Array TypeId} {b : Array TypeId} {c : Bool} (d : Nat) (ht : P.underlying t = some (.func a b c)) (f : Fn) (ts : Array Value) (cs : Array Value) (w : World) : (Op.equalIn (d + 1) t (.func f ts cs) .nilFunc).run P w = .ok false w := by
  simp [Op.equalIn, run_underlying ht]
theorem run_eqfn {P : Program} {t : TypeId} {a : Array TypeId} {b : Array TypeId} {c : Bool} (ht : P.underlying t = some (.func a b c)) (f : Fn) (ts : Array Value) (cs : Array Value) (w : World) : (Op.equal t (.func f ts cs) .nilFunc).run P w = .ok false w := run_eqfn_d 9999 ht f ts cs w
/-- is this function value nil? -/
theorem vfnil {P : Program} {w0 : World} {n : Nat} {ρ : Env} {A : List HProp} {T : TypeId} {pos : String} {af : Array Edge} {d : Option Tmp} {g : Option (Nat × Bool)} {t t2 : TypeId} {x y : Operand} {v : Value} {p : Bool} {a : Array TypeId} {b : Array TypeId} {c : Bool} (ht : P.underlying t = some (.func a b c)) (hx : ev n ρ x = v) (hv : (v = .nilFunc ∧ p = true) ∨ (∃ f ts cs, v = .func f ts cs) ∧ p = false) (hy : ev n ρ y = .nilFunc) :
    Val P w0 n ρ A ⟨d, .binOp .eql t x y t2, T, pos, af, g⟩ (.bool p) := fun w _ => by
  rcases hv with ⟨rfl, rfl⟩ | ⟨⟨f, ts, cs, rfl⟩, rfl⟩
  · simp [execOp, hx, hy, eqGuard, binOp, run_eqf ht]
  · simp [execOp, hx, hy, eqGuard, binOp, run_eqfn ht]
section
variable {P : Program} {w0 : World} {n : Nat} {ρ : Env} {A : List HProp} {T : TypeId} {pos : String} {af : Array Edge} {d : Option Tmp} {g : Option (Nat × Bool)} {t t2 : TypeId} {x y : Operand} {a : Array TypeId} {b : Array TypeId} {c : Bool} {f : Fn} {ts cs : Array Value}
theorem vfnT (ht : P.underlying t = some (.func a b c)) (hx : ev n ρ x = .nilFunc) (hy : ev n ρ y = .nilFunc) : Val P w0 n ρ A ⟨d, .binOp .eql t x y t2, T, pos, af, g⟩ (.bool true) := vfnil ht hx (.inl ⟨rfl, rfl⟩) hy
theorem vfnF (ht : P.underlying t = some (.func a b c)) (hx : ev n ρ x = .func f ts cs) (hy : ev n ρ y = .nilFunc) : Val P w0 n ρ A ⟨d, .binOp .eql t x y t2, T, pos, af, g⟩ (.bool false) := vfnil ht hx (.inr ⟨⟨f, ts, cs, rfl⟩, rfl⟩) hy
end
section
variable {P : Program} {w0 : World} {n : Nat} {Q : Exit → Act → World → Prop} {ρ : Env} {A : List HProp} {l0 : List Oper} {bs : List Nat × List Nat} {Good : (World → Prop) → Prop}
theorem WPl.twoE {is : List Nat} {e1 e2 : Nat} {p1 p2 : Plan} (hF : ∀ g, GoodC Good (Own w0 (g ++ A)))
    (h : WD P w0 n l0.toArray (fun g => g ++ A) (fun ρ' => (wantN n ρ' l0 e1 = true ∧ WL P w0 n l0.toArray (Br P w0 n l0 bs Q (fun g => g ++ A) p1) [nthD l0 e1] ρ' A) ∧ (wantN n ρ' l0 e2 = true ∧ WL P w0 n l0.toArray (Br P w0 n l0 bs Q (fun g => g ++ A) p2) [nthD l0 e2] ρ' A)) (pickL l0 is) ρ) : WPl P w0 n l0 bs Q Good (.two is e1 p1 e2 p2) ρ A :=
  WPl.two (fun g => g ++ A) [] (fun g => (hF g).good) rfl h
end
section
variable {P : Program} {w0 : World} {n : Nat} {ρ : Env} {A : List HProp} {T : TypeId} {pos : String} {af : Array Edge} {d : Option Tmp} {g : Option (Nat × Bool)} {t : TypeId} {s : ByteArray} {x y z : Operand} {k k' : IntKind} {lo hi : Int}
theorem vsslH (ht : P.underlying t = some .string) (hx : ev n ρ x = .string s) (hhi : ev n ρ z = .int k' hi) (h1 : 0 ≤ hi) (h2 : hi ≤ s.size) :
    Val P w0 n ρ A ⟨d, .slice t x none (some z) none, T, pos, af, g⟩ (.string (s.extract 0 hi.toNat)) := fun w hw => by
  have h5 : ¬ max hi 0 < 0 := by omega
  simp [h5, execOp, hx, hhi, Instr.sliceAt, run_underlying ht, Instr.slice, Instr.sliceBounds, Instr.sliceBound, asIntOf, h1, h2]
theorem vsslL (ht : P.underlying t = some .string) (hx : ev n ρ x = .string s) (hlo : ev n ρ y = .int k lo) (h0 : 0 ≤ lo) (h1 : lo ≤ s.size) :
    Val P w0 n ρ A ⟨d, .slice t x (some y) none none, T, pos, af, g⟩ (.string (s.extract lo.toNat s.size)) := fun w hw => by
  have h5 : ¬ max (s.size : Int) 0 < lo := by omega
  simp [h5, execOp, hx, hlo, Instr.sliceAt, run_underlying ht, Instr.slice, Instr.sliceBounds, Instr.sliceBound, asIntOf, h0, h1]
end
/-- only the first of a row's cells are looked at from here on -/
theorem Own.row_take {w0 w : World} {R : List HProp} {base : Option Addr} {c s : Nat} {e : TypeId} {vs : List Value} (j : Nat) (H : Own w0 (Sl.row base c s e vs :: R) w) : Own w0 (Sl.row base c s e (vs.take j) :: R) w := H.head fun h a => by
  rcases a with ⟨r1, r2, r3, r4⟩ | ⟨g, o, cur, r1, r2, r3, r5, r6⟩
  · subst r2; subst r3; exact .inl ⟨r1, by simp, rfl, r4⟩
  · exact .inr ⟨g, o, cur, r1, (List.take_prefix _ _).trans r2, ⟨Nat.le_trans (by rw [List.length_take]; exact Nat.min_le_right _ _) r3.1, r3.2⟩, r5, r6⟩
end Go.Sl
