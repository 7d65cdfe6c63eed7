/-
  A range over a function: rounds, marks, the iterator's call of yield. Plain theorems over any program.
-/
import Derived.Test.YthljpljbpbkkcaaDoorSlAgg
import Derived.RangeFuncRecord
import Derived.Laws.Cover3
set_option linter.unusedVariables false
set_option linter.unusedSimpArgs false
namespace Go.Sl
open Go.RowKit
open Go.MapKept

/-! ### Out of the plain walk into a round's frame, or behind marks -/
def fence (r : Option Nat) : Fence := { Fence.wide with round := r }
def behind (ds : List Deferred) (Q : Exit → Act → World → Prop) : Exit → Act → World → Prop
  | .outgrown, _, _ => False
  | e, a, w => Q e { a with defers := a.defers ++ ds } w
def noDefer (o : Oper) : Bool := match o.op with
  | .defer _ => false
  | _ => true
theorem noDefer_spec {o : Oper} (h : noDefer o = true) : ∀ c, o.op ≠ .defer c := fun c hc => by simp [noDefer, hc] at h
theorem not_out {ds : List Deferred} {Q : Exit → Act → World → Prop} : ¬ LetsOut (behind ds Q) := fun ⟨_, _, h⟩ => h
theorem callsIn_fence {r : Option Nat} {k : Nat} {P : Program} {f : FuncId} {args : Array Value} {w : World} {R : Ending → World → Prop} : CallsIn (fence r) k P f args w R ↔ Calls P f args w R := callsIn_wide
theorem rowsIn_fence {r : Option Nat} {k : Nat} {P : Program} {row : String} {args : Array Value} {w : World} {R : Value → World → Prop} (h : Rows P row args w R) : RowsIn (fence r) k P row args w R :=
  fun c cs _ => let ⟨v, w', hr, hs⟩ := h c cs; ⟨v, w', hr, stepsIn_wide.2 hs⟩
theorem put_app (a : Act) (ds : List Deferred) (d : Option Tmp) (v : Value) : ({ a with defers := a.defers ++ ds } : Act).put d v = { a.put d v with defers := (a.put d v).defers ++ ds } := by
  cases d <;> rfl
theorem uponIn_of {P : Program} {r : Option Nat} {k : Nat} {ds : List Deferred} {o : Oper} {a : Act} {next next' : Act → World → Prop} {Q : Exit → Act → World → Prop} (hn : ∀ a w, next a w → next' { a with defers := a.defers ++ ds } w) (res : Result Next)
    (h : o.upon P a next (behind ds Q) res) : o.uponIn (fence r) k P { a with defers := a.defers ++ ds } next' Q res := by
  cases res with
  | ok x w =>
    cases x <;> simp only [Oper.upon] at h <;> simp only [Oper.uponIn]
    all_goals first
      | (rw [put_app]; exact hn _ _ h)
      | (have := hn _ _ h; cases hd : o.dst <;> simpa [hd, Act.put] using this)
      | (refine ⟨fun h0 => by simp [fence, Fence.wide] at h0, callsIn_fence.2 (Calls.mono h fun e w'' he => ?_)⟩
         cases e with
         | returned v => simp only at he ⊢; rw [put_app]; exact hn _ _ he
         | panicked c => exact he
         | outgrown => exact absurd he not_out)
      | (refine ⟨fun h0 => by simp [fence, Fence.wide] at h0, rowsIn_fence (Rows.mono h fun v w'' he => ?_)⟩
         rw [put_app]; exact hn _ _ he)
      | exact h
  | halt x w => cases x <;> simp only [Oper.upon] at h <;> simp only [Oper.uponIn] <;> exact h
theorem ops_behind {P : Program} {r : Option Nat} {ds : List Deferred} {ops : Array Oper} {Q : Exit → Act → World → Prop} (hd : ∀ (i : Nat) (o : Oper), ops[i]? = some o → noDefer o = true) : ∀ (l : List Nat) (a : Act) (w : World),
    wpOps P ops (behind ds Q) l a w → wpOpsIn (fence r) 0 P ops Q l { a with defers := a.defers ++ ds } w
  | [], a, w, h => h
  | i :: l, a, w, h => by
    simp only [wpOps, wpOpsIn] at h ⊢
    cases ho : ops[i]? with
    | none => simp only [ho] at h ⊢; exact ops_behind hd l a w h
    | some o =>
      simp only [ho] at h ⊢
      split
      · rename_i hw
        simp only [hw, if_true] at h
        refine ⟨fun _ _ => trivial, ?_⟩
        rw [Oper.semAt_eq _ _ _ (noDefer_spec (hd i o ho))]
        rcases h with h | ⟨_, h⟩
        · exact uponIn_of (fun a w h => ops_behind hd l a w h) _ h
        · exact absurd h not_out
      · rename_i hw
        simp only [hw, if_false, Bool.false_eq_true] at h
        refine ⟨fun _ _ => trivial, ?_⟩
        rw [put_app]
        exact ops_behind hd l _ w h
section
variable {P : Program} {w0 : World} {n : Nat} {r : Option Nat} {ds : List Deferred} {Q Q' : Exit → Act → World → Prop} {ρ : Env} {A A' : List HProp} {x y c : Code} {l l0 : List Oper}
/-- code walked in a round's frame, or behind marks -/
structure WG (P : Program) (w0 : World) (r : Option Nat) (ds : List Deferred) (n : Nat) (c : Code) (Q : Exit → Act → World → Prop) (ρ : Env) (A : List HProp) : Prop where
  run : ∀ w, Own w0 A w → c.wpIn (fence r) 0 P Q ⟨arr n ρ, ds⟩ w
theorem WG.perm (h : WG P w0 r ds n c Q ρ A') (hA : ∀ w, Own w0 A w → Own w0 A' w) : WG P w0 r ds n c Q ρ A := ⟨fun w hw => h.run w (hA w hw)⟩
theorem WG.known {p : Prop} (hp : ∀ w, Own w0 A w → p) (h : p → WG P w0 r ds n c Q ρ A) : WG P w0 r ds n c Q ρ A := ⟨fun w hw => (h (hp w hw)).run w hw⟩
theorem behind_n {e : Exit} (he : e ≠ .outgrown) {a : Act} {w : World} (h : Q e { a with defers := a.defers ++ ds } w) : behind ds Q e a w := by cases e <;> first | exact h | exact absurd rfl he
theorem WG.seq (h : WG P w0 r ds n x (Exit.then (y.wpIn (fence r) 0 P Q) Q) ρ A) : WG P w0 r ds n (.seq x y) Q ρ A := ⟨fun w hw => wpIn_seq (h.run w hw)⟩
theorem WG.block {i : Nat} (h : WG P w0 r ds n c (Exit.inBlock i Q) ρ A) : WG P w0 r ds n (.block i c) Q ρ A := ⟨fun w hw => wpIn_block (h.run w hw)⟩
theorem WG.skip (h : WX w0 n (behind ds Q) .normal ρ A) : WG P w0 r ds n .skip Q ρ A := ⟨fun w hw => wpIn_skip (h.run w hw)⟩
theorem WG.ret (h : WX w0 n (behind ds Q) .ret ρ A) : WG P w0 r ds n .ret Q ρ A := ⟨fun w hw => wpIn_ret (h.run w hw)⟩
theorem WG.ite {p : Prop} [Decidable p] {o : Operand} (hc : ev n ρ o = .bool (decide p)) (ht : p → WG P w0 r ds n x Q ρ A) (hf : ¬ p → WG P w0 r ds n y Q ρ A) : WG P w0 r ds n (.cond o x y) Q ρ A := ⟨fun w hw => by
  have he : (⟨arr n ρ, ds⟩ : Act).eval o = .bool (decide p) := by rw [← hc, ← eval_act]; rfl
  exact wpIn_cond_split he (fun h => (ht (by simpa using h)).run w hw) (fun h => (hf (by simpa using h)).run w hw)⟩
theorem WG.tt {o : Operand} (hc : ev n ρ o = .bool true) (h : WG P w0 r ds n x Q ρ A) : WG P w0 r ds n (.cond o x y) Q ρ A := ⟨fun w hw => by
  have he : (⟨arr n ρ, ds⟩ : Act).eval o = .bool true := by rw [← hc, ← eval_act]; rfl
  exact wpIn_cond_true he (h.run w hw)⟩
theorem WG.ff {o : Operand} (hc : ev n ρ o = .bool false) (h : WG P w0 r ds n y Q ρ A) : WG P w0 r ds n (.cond o x y) Q ρ A := ⟨fun w hw => by
  have he : (⟨arr n ρ, ds⟩ : Act).eval o = .bool false := by rw [← hc, ← eval_act]; rfl
  exact wpIn_cond_false he (h.run w hw)⟩
theorem arr_defers : (({ (act n ρ) with defers := (act n ρ).defers ++ ds } : Act)) = ⟨arr n ρ, ds⟩ := rfl
theorem hd_of {l : List Oper} (hd : l.all noDefer = true) : ∀ (i : Nat) (o : Oper), (l.toArray)[i]? = some o → noDefer o = true := fun i o h => by
  have : o ∈ l := List.mem_of_getElem? (by simpa using h)
  exact List.all_eq_true.1 hd o this
theorem WG.region {i : Nat} (hd : l.all noDefer = true) (h : WL P w0 n l.toArray (behind ds Q) l ρ A) : WG P w0 r ds n (.region i l.toArray false) Q ρ A := ⟨fun w hw => by
  refine wpIn_region ?_
  have := ops_behind (r := r) (hd_of hd) (List.range l.toArray.size) (act n ρ) w (by
    rw [List.range_eq_range', ← Array.length_toList, wpOps_eq_wpList l.toArray.toList 0 (by simp)]
    simpa using h.run w hw)
  exact this⟩
theorem WG.draws {i : Nat} (hm : P.follows .mixedOrders = true) (hB : (Region.lexB .any l.toArray && l.all noDefer) = true) (h : WQ P w0 n l.toArray (behind ds Q) l ρ A) : WG P w0 r ds n (.region i l.toArray true) Q ρ A := ⟨fun w hw => by
  simp only [Bool.and_eq_true] at hB
  obtain ⟨hB, hd⟩ := hB
  simp only [Region.lexB, Bool.and_eq_true] at hB
  refine wpIn_region_draw fun t => ?_
  simp only [Region.schedule, hm, Bool.true_or, if_true]
  refine ops_behind (r := r) (hd_of hd) _ (act n ρ) _ (wpAny_sound _ t _ _ _ ?_)
  refine wpAny_of_quiet (C := Own w0 A) (Q := fun a' => ∀ w', Own w0 A w' → behind ds Q .normal a' w') (fun _ w' hw' h => h w' hw') _ _ _ _ hw.drew ?_
  have := wpAnyQ_lex (C := Own w0 A) (md := .any) hB.1 l.toArray.toList 0 (Array.replicate l.toArray.size false) (act n ρ) (by simp) (by simpa using hB.2) (by simpa using h.run)
  simpa using this⟩
theorem WG.plan {i : Nat} (p : Plan) (hm : P.follows .mixedOrders = true) (hB : (topB l0.toArray p && l0.all noDefer) = true) (h : WPl P w0 n l0 (barP p) (behind ds Q) (fun _ => True) p ρ A) : WG P w0 r ds n (.region i l0.toArray true) Q ρ A := ⟨fun w hw => by
  simp only [Bool.and_eq_true] at hB
  obtain ⟨hB, hd⟩ := hB
  simp only [topB, Bool.and_eq_true] at hB
  obtain ⟨_, h3⟩ := h.run hB.1.1
  refine wpIn_region_draw fun t => ?_
  simp only [Region.schedule, hm, Bool.true_or, if_true]
  exact ops_behind (r := r) (hd_of hd) _ (act n ρ) _ (wpAny_sound _ t _ _ _ (wpAny_of_G _ _ _ _ _ _ hw.drew (h3 _ _ hB.2 (by have := hB.1.2; simpa using this))))⟩
theorem wide_fence : Fence.wide = fence none := rfl
theorem WX.gthenN (h : WG P w0 none ds n y Q' ρ A) : WX w0 n (behind ds (Exit.then (y.wp P Q') Q)) .normal ρ A := ⟨fun w hw => wpIn_wide.1 (h.run w hw)⟩
theorem WX.gthenM (h : WG P w0 r ds n y Q' ρ A) : WX w0 n (behind ds (Exit.then (y.wpIn (fence r) 0 P Q') Q)) .normal ρ A := ⟨h.run⟩
theorem WX.gthenR {K : Act → World → Prop} (h : WX w0 n (behind ds Q) .ret ρ A) : WX w0 n (behind ds (Exit.then K Q)) .ret ρ A := ⟨h.run⟩
theorem WX.gblockN {i : Nat} (h : WX w0 n (behind ds Q) .normal ρ A) : WX w0 n (behind ds (Exit.inBlock i Q)) .normal ρ A := ⟨h.run⟩
theorem WX.gblockR {i : Nat} (h : WX w0 n (behind ds Q) .ret ρ A) : WX w0 n (behind ds (Exit.inBlock i Q)) .ret ρ A := ⟨h.run⟩
end

/-! ### The iterator: its call of yield -/
section
variable {P : Program} {w0 : World} {n : Nat} {ops : Array Oper} {Q : Exit → Act → World → Prop} {ρ : Env} {A A' : List HProp} {rest : List Oper}
/-- a call of yield: what it takes and leaves; the rounds go on -/
def YieldA (P : Program) (w0 : World) (l : Nat) (v : Value) (A A' : List HProp) : Prop := ∀ w, Own w0 A w → ∃ fn tmps assign body, (Instr.yield l #[v]).run P w = .ok (.round l fn tmps assign body) w ∧
  RoundIn Fence.wide 0 P l fn tmps assign body w fun e w' => e = .returned (.bool true) ∧ Own w0 A' w'
structure WLI (P : Program) (w0 : World) (n : Nat) (ops : Array Oper) (Q : Exit → Act → World → Prop) (l : List Oper) (ρ : Env) (A : List HProp) : Prop where
  run : ∀ w, Own w0 A w → wpListIn Fence.wide 0 P ops Q l (act n ρ) w
theorem listIn_step {o : Oper} {a : Act} {w : World}
    (h : if Region.wanted o (yielded ops a.tmps) then o.wpIn Fence.wide 0 P a w (wpListIn Fence.wide 0 P ops Q rest) Q else wpListIn Fence.wide 0 P ops Q rest (a.put o.dst undef) w) : wpListIn Fence.wide 0 P ops Q (o :: rest) a w := by
  unfold wpListIn
  split
  · rename_i hw; rwa [if_pos hw] at h
  · rename_i hw; rw [if_neg hw] at h; exact ⟨fun _ _ => trivial, h⟩
theorem WC.regionI {i : Nat} {l : List Oper} (h : WLI P w0 n l.toArray Q l ρ A) : WC P w0 n (.region i l.toArray false) Q ρ A := ⟨fun w hw => by
  refine (wpIn_wide (n := 0)).1 (wpIn_region_lit (h.run w hw))⟩
theorem WLI.nil (h : WX w0 n Q .normal ρ A) : WLI P w0 n ops Q [] ρ A := ⟨fun w hw => h.run w hw⟩
variable {d : Nat} {op : Op} {T : TypeId} {pos : String} {af : Array Edge} {v : Value} {g : Nat} {b : Bool}
theorem WLI.sv (hv : Val P w0 n ρ A ⟨some d, op, T, pos, af, none⟩ v) (h : WLI P w0 n ops Q rest (set ρ d v) A) : WLI P w0 n ops Q (⟨some d, op, T, pos, af, none⟩ :: rest) ρ A := by
  refine ⟨fun w hw => listIn_step ?_⟩
  rw [if_pos (by simp [Region.wanted])]
  refine ⟨fun _ _ => trivial, ?_⟩
  have : (Oper.semAt Fence.wide.round (act n ρ).eval ⟨some d, op, T, pos, af, none⟩).run P w = .ok (.value v) w := by
    show (execOp _ _).run P w = _
    rw [eval_act, hv w hw]
  rw [this, Oper.uponIn_value, put_act]
  exact h.run w hw
theorem WLI.svg (hg : yieldN n ρ ops g = some b) (hv : Val P w0 n ρ A ⟨some d, op, T, pos, af, some (g, b)⟩ v) (h : WLI P w0 n ops Q rest (set ρ d v) A) : WLI P w0 n ops Q (⟨some d, op, T, pos, af, some (g, b)⟩ :: rest) ρ A := by
  refine ⟨fun w hw => listIn_step ?_⟩
  have hw' : Region.wanted ⟨some d, op, T, pos, af, some (g, b)⟩ (yielded ops (act n ρ).tmps) = true := by
    simp only [Region.wanted, act, yielded_arr, hg, beq_self_eq_true]
  rw [if_pos hw']
  refine ⟨fun _ _ => trivial, ?_⟩
  have : (Oper.semAt Fence.wide.round (act n ρ).eval ⟨some d, op, T, pos, af, some (g, b)⟩).run P w = .ok (.value v) w := by
    show (execOp _ _).run P w = _
    rw [eval_act, hv w hw]
  rw [this, Oper.uponIn_value, put_act]
  exact h.run w hw
theorem WLI.sng (hg : (yieldN n ρ ops g == some b) = false) (h : WLI P w0 n ops Q rest (set ρ d undef) A) : WLI P w0 n ops Q (⟨some d, op, T, pos, af, some (g, b)⟩ :: rest) ρ A := by
  refine ⟨fun w hw => listIn_step ?_⟩
  have hw' : ¬ Region.wanted ⟨some d, op, T, pos, af, some (g, b)⟩ (yielded ops (act n ρ).tmps) = true := by
    simp only [Region.wanted, act, yielded_arr, hg]; simp
  rw [if_neg hw', put_act]
  exact h.run w hw
theorem run_yv {x y : Operand} {l : Nat} {tys : Array TypeId} {o : Option (Nat × Bool)} {fn : FuncId} {tmps : Array Value} {assign body : Code} {w : World} (hx : ev n ρ x = .func (.yield l) #[] #[]) (hy : ev n ρ y = v) (hr : (Instr.yield l #[v]).run P w = .ok (.round l fn tmps assign body) w) :
    (execOp (ev n ρ) ⟨some d, .call ⟨.value x, #[y], tys⟩, T, pos, af, o⟩).run P w = .ok (.round l fn tmps assign body) w := by
  simp only [execOp, resolve, hx, hy, Deferred.ofValue, Sem.run_bind, Sem.run_pure, Result.andThen_ok, invoke]
  simpa [hy] using hr
theorem WLI.yg {x y : Operand} {l : Nat} {tys : Array TypeId} (hg : yieldN n ρ ops g = some b) (hx : ev n ρ x = .func (.yield l) #[] #[]) (hy : ev n ρ y = v) (hY : YieldA P w0 l v A A')
    (h : WLI P w0 n ops Q rest (set ρ d (.bool true)) A') : WLI P w0 n ops Q (⟨some d, .call ⟨.value x, #[y], tys⟩, T, pos, af, some (g, b)⟩ :: rest) ρ A := by
  refine ⟨fun w hw => listIn_step ?_⟩
  have hw' : Region.wanted ⟨some d, .call ⟨.value x, #[y], tys⟩, T, pos, af, some (g, b)⟩ (yielded ops (act n ρ).tmps) = true := by
    simp only [Region.wanted, act, yielded_arr, hg, beq_self_eq_true]
  rw [if_pos hw']
  refine ⟨fun _ _ => trivial, ?_⟩
  obtain ⟨fn, tmps, assign, body, hr, hR⟩ := hY w hw
  have : (Oper.semAt Fence.wide.round (act n ρ).eval ⟨some d, .call ⟨.value x, #[y], tys⟩, T, pos, af, some (g, b)⟩).run P w = .ok (.round l fn tmps assign body) w := by
    rw [show Fence.wide.round = none from rfl, Oper.semAt_none, eval_act]
    exact run_yv hx hy hr
  rw [this, Oper.uponIn_round]
  refine ⟨fun h0 => by simp [Fence.wide] at h0, hR.mono ?_⟩
  rintro e w' ⟨rfl, hO⟩
  simp only [put_act]
  exact h.run w' hO
end

/-! ### The statement -/
def lp (D l : Nat) (r : Loop) : HProp := star (pt D (.deferred (some []))) (pt l (.loop r))
theorem Own.putObj {w0 w : World} {b : Nat} {o o' : Obj} {R : List HProp} (H : Own w0 (pt b o :: R) w) : Own w0 (pt b o' :: R) (w.putObj b o') :=
  H.turn rfl rfl rfl World.putObj_size (World.putObj_heap_same (Array.getElem?_eq_some_iff.1 H.heap.1).1) (fun k hk => World.putObj_heap_other hk)
def mark (D : Nat) : List Deferred := [{ target := .collected D, args := #[] }]
/-- what is asked behind a round's body -/
def roundQ (w0 : World) (A : List HProp) : Exit → Act → World → Prop
  | .normal, _, w => Own w0 A w
  | _, _, _ => False
theorem WX.round {w0 : World} {n : Nat} {ρ : Env} {A A' : List HProp} {ds : List Deferred} (h : ∀ w, Own w0 A w → Own w0 A' w) : WX w0 n (behind ds (roundQ w0 A')) .normal ρ A := ⟨fun w hw => h w hw⟩
/-- what is asked behind the assignment to the loop's variable -/
def asgQ (P : Program) (w0 : World) (n l : Nat) (body : Code) (A A1 A2 : List HProp) : Exit → Act → World → Prop
  | .normal, a, w => ∃ ρ', a = ⟨arr n ρ', []⟩ ∧ Own w0 A w ∧ WG P w0 (some l) [] n body (roundQ w0 A2) ρ' A1
  | _, _, _ => False
section
variable {P : Program} {w0 : World} {n : Nat} {Q : Exit → Act → World → Prop} {ρ : Env} {A A1 A2 : List HProp}
theorem WX.asg {l : Nat} {body : Code} (h : WG P w0 (some l) [] n body (roundQ w0 A2) ρ A1) : WX w0 n (behind [] (asgQ P w0 n l body A A1 A2)) .normal ρ A := ⟨fun w hw => ⟨ρ, by simp [act], hw, h⟩⟩
theorem arr_zip (p : Nat) (v : Value) : (((#[p] : Array Tmp).zip (#[v] : Array Value)).foldl (fun t (x : Tmp × Value) => t.setIfInBounds x.1 x.2) (arr n ρ)) = arr n (set ρ p v) := by
  rw [← arr_set]; simp
theorem lp_head {w : World} {D l : Nat} {r : Loop} {pre : List HProp} (H : Own w0 (pre ++ lp D l r :: A) w) : Own w0 (pt l (.loop r) :: pt D (.deferred (some [])) :: (pre ++ A)) w := (H.perm List.perm_middle).star.pk1
theorem lp_back {w : World} {D l : Nat} {r : Loop} {pre : List HProp} (H : Own w0 (pt l (.loop r) :: pt D (.deferred (some [])) :: (pre ++ A)) w) : Own w0 (pre ++ lp D l r :: A) w := (H.pk1.intro_star).perm List.perm_middle.symm
def busy (r : Loop) : Loop := { r with state := .busy }
theorem ready_self {r : Loop} (hst : r.state = .ready) (hpe : r.pending = none) : ({ busy r with state := .ready, pending := none } : Loop) = r := by
  obtain ⟨st, pe, fn, tm, ps, as_, bo, df⟩ := r
  simp only at hst hpe
  subst hst; subst hpe
  rfl
/-- one call of yield, out of the body's walk -/
theorem yield_of {D l p : Nat} {r : Loop} {v : Value} {pre pre' : List HProp} (hst : r.state = .ready) (hpe : r.pending = none) (hps : r.params = #[p]) (htm : r.tmps = arr n ρ)
    (hb : WG P w0 (some l) [] n r.assign (asgQ P w0 n l r.body (pre ++ lp D l r :: A) (pre ++ lp D l (busy r) :: A) (pre' ++ lp D l (busy r) :: A)) (set ρ p v) (pre ++ lp D l r :: A)) :
    YieldA P w0 l v (pre ++ lp D l r :: A) (pre' ++ lp D l r :: A) := fun w hw => by
  have hl := (lp_head hw).heap.1
  refine ⟨r.fn, _, r.assign, r.body, run_yield hl (by simp [hps]), ?_⟩
  rw [hps, htm, arr_zip]
  refine roundIn_of_wpIn (F := Fence.wide) trivial ?_
  refine wpIn_mono (hb.run w hw) ?_
  rintro e a w1 hq
  cases e with
  | normal =>
    obtain ⟨ρ', rfl, hO, hB⟩ := hq
    have h1 := lp_head hO
    refine ⟨_, run_beginRound h1.heap.1 hst, ?_⟩
    refine wpIn_mono (hB.run _ (lp_back (h1.putObj (o' := .loop (busy r))))) ?_
    rintro e a w2 hq
    cases e with
    | normal =>
      have h2 := lp_head hq
      have hr := run_endRound (P := P) none h2.heap.1
      refine ⟨_, _, hr, rfl, ?_⟩
      have h3 := h2.putObj (o' := .loop { busy r with state := if (none : Option Code).isNone then .ready else .done, pending := none })
      have e : ({ busy r with state := if (none : Option Code).isNone then .ready else .done, pending := none } : Loop) = r := ready_self hst hpe
      rw [e] at h3 ⊢
      exact lp_back h3
    | ret => exact hq.elim
    | exit i => exact hq.elim
    | goto t => exact hq.elim
    | panic c => exact hq.elim
    | outgrown => exact hq.elim
  | ret => exact hq.elim
  | exit i => exact hq.elim
  | goto t => exact hq.elim
  | panic c => exact hq.elim
  | outgrown => exact hq.elim
/-- for v := range g { body }: no round leaves early -/
theorem WC.rangeF {g : Operand} {gf : FuncId} {bnd : List Value} {p : Nat} {assign body : Code} (pre : Nat → List HProp) (k0 kN : Nat) (S : Nat → Value → Prop) (hc : callT P gf = true) (hg : ev n ρ g = .func (.func gf) bnd.toArray #[]) (hA : ∀ w, Own w0 A w → Own w0 (pre k0 ++ A1) w)
    (hit : ∀ l R, (∀ k v, S k v → YieldA P w0 l v (pre k ++ R) (pre (k + 1) ++ R)) → Fun P w0 gf (bnd ++ [.func (.yield l) #[] #[]]) (pre k0 ++ R) (Ret w0 (fun _ : Unit => True) (fun _ => .tuple #[]) (fun _ => pre kN ++ R)))
    (hb : ∀ l X Y k v, S k v → WG P w0 (some l) [] n assign (asgQ P w0 n l body (pre k ++ X :: A1) (pre k ++ Y :: A1) (pre (k + 1) ++ Y :: A1)) (set ρ p v) (pre k ++ X :: A1))
    (h : ∀ D l r, WX w0 n (behind (mark D) Q) .normal ρ (pre kN ++ lp D l r :: A1)) : WC P w0 n (.rangeFunc g #[p] assign body) Q ρ A := ⟨fun w hw => by
  refine (wpIn_wide (n := 0)).1 (wpIn_rangeFunc fun fn _ => ?_)
  obtain ⟨rec, hrec⟩ : ∃ rec : Loop, rec = { state := .ready, pending := none, fn, tmps := arr n ρ, params := #[p], assign, body, defers := w.heap.size } := ⟨_, rfl⟩
  have hO : Own w0 (pre k0 ++ lp w.heap.size (w.heap.size + 1) rec :: A1) ((w.alloc (.deferred (some []))).alloc (.loop rec)) := by
    have h1 := ((hA w hw).alloc (.deferred (some []))).alloc (.loop rec)
    rw [World.size_alloc] at h1
    exact lp_back h1
  refine ⟨w.heap.size + 1, mark w.heap.size, (w.alloc (.deferred (some []))).alloc (.loop rec), { target := .fn (.func gf) #[], args := bnd.toArray ++ #[.func (.yield (w.heap.size + 1)) #[] #[]] }, (w.alloc (.deferred (some []))).alloc (.loop rec), gf,
    (bnd ++ [Value.func (.yield (w.heap.size + 1)) #[] #[]]).toArray, (w.alloc (.deferred (some []))).alloc (.loop rec), ?_, ?_, fun _ _ => trivial, ?_, fun h0 => by simp [Fence.wide] at h0, ?_⟩
  · rw [hrec]; exact run_enterLoop_outer _ _ _ _ _
  · have he : (act n ρ).eval g = .func (.func gf) bnd.toArray #[] := by rw [eval_act]; exact hg
    simp only [resolve, rangeCall, he]
    simp [go_sem, Deferred.ofValue]
  · simp only [invoke]
    rw [show (bnd.toArray ++ #[Value.func (.yield (w.heap.size + 1)) #[] #[]] ++ #[] : Array Value) = (bnd ++ [Value.func (.yield (w.heap.size + 1)) #[] #[]]).toArray by simp, run_callFunc_of hc]
  · refine callsIn_wide.2 (((hit (w.heap.size + 1) (lp w.heap.size (w.heap.size + 1) rec :: A1) (fun k v hS => ?_)).run _ hO).mono ?_)
    · exact yield_of (p := p) (ρ := ρ) (n := n) (by rw [hrec]) (by rw [hrec]) (by rw [hrec]) (by rw [hrec]) (by
        have e1 : rec.assign = assign := by rw [hrec]
        have e2 : rec.body = body := by rw [hrec]
        rw [e1, e2]
        exact hb _ _ _ k v hS)
    · rintro e w' ⟨_, _, rfl, hO'⟩
      have h1 := lp_head hO'
      refine ⟨_, _, run_endLoop h1.heap.1 (by rw [hrec]; simp), ?_⟩
      have h2 := lp_back (h1.putObj (o' := .loop { rec with state := .exhausted }))
      have e : rec.pending = none := by rw [hrec]
      rw [e] at h2 ⊢
      exact (h _ _ _).run _ h2⟩
end
theorem Own.prefix {w0 w : World} {B : List HProp} : ∀ {A : List HProp}, Own w0 (A ++ B) w → Own w0 A w := fun {A} h => by
  have h1 : Own w0 (B ++ A) w := h.perm List.perm_append_comm
  clear h
  induction B with
  | nil => exact h1
  | cons X B ih => exact ih h1.tail
/-! ### Functions that hold such a loop -/
section
variable {P : Program} {w0 : World} {n : Nat} {ρ : Env} {A : List HProp} {c : Code}
theorem Fun.enterM {f : FuncId} {fn : Func} {args : List Value} {R : Ending → World → Prop} (hf : P.funcs[f]? = some fn) (hb : fn.body = some c) (hn : fn.ntmps = n) (hs : Nat.ble args.length n = true)
    (h : WC P w0 n c (bodyPostM Fence.wide 0 P fn R) (argE args) A) : Fun P w0 f args A R := by
  refine ⟨fun w hw => (callsIn_wide (n := 0)).1 (callsIn_of_wp_marks hf hb trivial (wpIn_wide.2 ?_))⟩
  subst hn
  have := h.run w hw
  rwa [act, ← args_arr args fn.ntmps (by simpa using hs)] at this
variable {ι : Type} {pr : ι → Prop} {val : ι → Value} {post : ι → List HProp} {fn : Func}
theorem WX.ret1M {t : Nat} (hres : fn.results = #[.tmp t]) (i : ι) (hp : pr i) (hv : ev n ρ (.tmp t) = val i) (hA : ∀ w, Own w0 A w → Own w0 (post i) w) : WX w0 n (bodyPostM Fence.wide 0 P fn (Ret w0 pr val post)) .ret ρ A :=
  ⟨fun w hw => by
    have := ((WX.ret1 (P := P) (w0 := w0) (n := n) (ρ := ρ) (A := A) (fn := fn) hres i hp hv hA).run w hw)
    obtain ⟨_, v, hr, hR⟩ := this
    exact ⟨v, hr, hR⟩⟩
theorem WX.ret1G {t D l : Nat} {r : Loop} (hres : fn.results = #[.tmp t]) (i : ι) (hp : pr i) (hv : ev n ρ (.tmp t) = val i) (hA : ∀ w, Own w0 A w → Own w0 (lp D l r :: post i) w) : WX w0 n (behind (mark D) (bodyPostM Fence.wide 0 P fn (Ret w0 pr val post))) .ret ρ A :=
  ⟨fun w hw => by
    have h1 := (hA w hw).star
    have hk := h1.heap.1
    have h2 := h1.putObj (o' := .deferred none)
    have h4 := h2.tail.tail
    have := ((WX.ret1 (P := P) (w0 := w0) (n := n) (ρ := ρ) (A := post i) (fn := fn) hres i hp hv (fun _ h => h)).run _ h4)
    obtain ⟨_, v, hr, hR⟩ := this
    exact ⟨by simp, .inl ⟨D, _, rfl, run_takeDeferred hk, v, hr, hR⟩⟩⟩
end

/-! ### More values -/
section
variable {P : Program} {w0 : World} {n : Nat} {ops : Array Oper} {Q : Exit → Act → World → Prop} {ρ : Env} {A R : List HProp} {rest : List Oper} {dd : Option Tmp} {T : TypeId} {pos : String} {af : Array Edge} {g : Option (Nat × Bool)} {x y z : Operand} {t kt et : TypeId} {d : TypeDesc} {m : Nat} {ps ps' : List (Value × Value)} {k v : Value}
/-- a function with its first arguments -/
theorem vfnb {f : FuncId} {cl : List Operand} {vs : List Value} (hv : cl.map (ev n ρ) = vs) : Val P w0 n ρ A ⟨dd, .makeFunc (.func f) cl.toArray #[], T, pos, af, g⟩ (.func (.func f) vs.toArray #[]) := fun w _ => by
  subst hv
  simp [execOp, Instr.makeFunc]
theorem vlenm (ht : P.underlying t = some (.map kt et)) (hx : ev n ρ x = .map (some m)) [hm : MpAt w0 A m d ps] : Val P w0 n ρ A ⟨dd, .call ⟨.builtin .len, #[x], #[t]⟩, T, pos, af, g⟩ (.int .i64 ps.length) := fun w hw => by
  obtain ⟨es, clk, ⟨h1, _, _⟩, hb⟩ := hm.mp w hw
  have hl : ps.length = es.size := by rw [← h1]; simp
  simp [execOp, resolve, invoke, builtin, Builtin.len_, run_underlying ht, hx, goInt, MapKept.run_getObj_map hb, Result.andThen, hl]
theorem ins (ht : P.underlying t = some (.map kt et)) (hd : P.underlying kt = some d) (hx : ev n ρ x = .map (some m)) (hy : ev n ρ y = k) (hz : ev n ρ z = v) (hk : IsKey d k) (hj : PutE ps k v ps')
    (h : WL P w0 n ops Q rest ρ (mp d m ps' :: R)) : WL P w0 n ops Q (⟨none, .insert t x y z, T, pos, af, none⟩ :: rest) ρ (mp d m ps :: R) :=
  ⟨fun w hw => (mpu (T := T) (pos := pos) (af := af) ht hd hx hy hz hk hj h).run w hw⟩
end
section
variable {P : Program} {w0 : World} {n : Nat} {ops : Array Oper} {Q : Exit → Act → World → Prop} {ρ : Env} {A : List HProp} {rest : List Oper} {d : Nat} {op : Op} {T : TypeId} {pos : String} {af : Array Edge}
theorem WLI.svs {p : Prop} [Decidable p] (hv : Val P w0 n ρ A ⟨some d, op, T, pos, af, none⟩ (.bool (decide p))) (ht : p → WLI P w0 n ops Q rest (set ρ d (.bool true)) A) (hf : ¬ p → WLI P w0 n ops Q rest (set ρ d (.bool false)) A) :
    WLI P w0 n ops Q (⟨some d, op, T, pos, af, none⟩ :: rest) ρ A := by
  by_cases h : p
  · exact WLI.sv hv (by simpa [h] using ht h)
  · exact WLI.sv hv (by simpa [h] using hf h)
end

section
variable {P : Program} {w0 : World} {n : Nat} {ρ : Env} {A : List HProp} {dd : Option Tmp} {T t e : TypeId} {pos : String} {af : Array Edge} {g : Option (Nat × Bool)} {x : Operand} {b s : Nat} {vs : List Value}
/-- a load of a whole struct that is borne -/
theorem vldac (ht : aggT P t = true) (hs : sizeT P t s = true) (hx : ev n ρ x = .pointer (some ⟨b, 0, none⟩)) [hc : CelAt A b vs e] (hl : vs.length = s) (h0 : 0 < s) : Val P w0 n ρ A ⟨dd, .load t x, T, pos, af, g⟩ (.agg vs.toArray) :=
  vlda (base := some ⟨b, 0, none⟩) (j := 0) (vs := vs) ht hs (by rw [hx]; rfl) (RdC.of_cel 0 hc.mem (by simp)) (by rw [List.drop_zero, ← hl, List.take_length]) hl h0
variable {ι : Type} {pr : ι → Prop} {val : ι → Value} {post : ι → List HProp} {fn : Func}
/-- a result that stands in a block -/
theorem WX.ret1c {u : Nat} (hres : fn.results = #[.cell u t]) (ht : aggT P t = true) (hs : sizeT P t s = true) (i : ι) (hp : pr i) (hx : ev n ρ (.tmp u) = .pointer (some ⟨b, 0, none⟩)) [hc : CelAt A b vs e] (hl : vs.length = s) (h0 : 0 < s) (hv : Value.agg vs.toArray = val i) (hA : ∀ w, Own w0 A w → Own w0 (post i) w) : WX w0 n (bodyPost P fn (Ret w0 pr val post)) .ret ρ A :=
  ⟨fun w hw => by
    have h1 := vldac (P := P) (w0 := w0) (dd := none) (T := t) (pos := "") (af := #[]) (g := none) ht hs hx hl h0 w hw
    have hr : (results fn (arr n ρ)).run P w = .ok (.agg vs.toArray) w := by
      have e1 : (arr n ρ).getD u undef = .pointer (some ⟨b, 0, none⟩) := by rw [← hx, ← arr_getD]
      have h2 : (loadVar t ⟨b, 0, none⟩).run P w = .ok (.agg vs.toArray) w := by
        simp only [execOp, hx, Instr.loadAt, Instr.sureAddr] at h1
        cases hl2 : (loadVar t ⟨b, 0, none⟩).run P w with
        | ok v w' => simp [Sem.run_bind, hl2, Result.andThen] at h1; rw [h1.1, h1.2]
        | halt o w' => simp [Sem.run_bind, hl2, Result.andThen] at h1
      have e2 : (arr n ρ)[u]?.getD undef = .pointer (some ⟨b, 0, none⟩) := by rw [← Array.getD_eq_getD_getElem?]; exact e1
      simp only [results, hres]
      simp [e2, asAddr, Sem.run_bind, h2, Result.andThen]
    exact bodyPost_ret hr rfl ⟨i, hp, by rw [← hv], hA w hw⟩⟩
end

section
variable {P : Program} {w0 : World} {n : Nat} {ops : Array Oper} {Q : Exit → Act → World → Prop} {ρ : Env} {A : List HProp} {rest : List Oper} {dd : Option Tmp} {d : Nat} {T t t2 e : TypeId} {pos : String} {af : Array Edge} {g : Option (Nat × Bool)} {x y : Operand} {base : Option Addr} {l c s by_ : Nat} {z : Value}
/-- a slice against nil -/
theorem vsnl (ht : P.underlying t = some (.slice e)) (hx : ev n ρ x = .slice base l c) (hy : ev n ρ y = .slice none 0 0) : Val P w0 n ρ A ⟨dd, .binOp .eql t x y t2, T, pos, af, g⟩ (.bool base.isNone) := fun w _ => by
  simp [execOp, hx, hy, eqGuard_at_slice, binOp, run_equal_slice_nil w t e base l c ht]
/-- a slice literal of nothing -/
theorem bslz (ht : P.underlying t = some (.slice e)) (hz : zeroT P e z s by_)
    (h : ∀ g, WL P w0 n ops Q rest (set ρ d (.slice (some ⟨g, 0, none⟩) 0 0)) (row (some ⟨g, 0, none⟩) 0 s e [] :: A)) :
    WL P w0 n ops Q (⟨some d, .buildSlice t 0 #[], T, pos, af, none⟩ :: rest) ρ A :=
  WL.step rfl fun w hw => by
    obtain ⟨i, hi, hz, hs, _⟩ := hz
    have hO : Own w0 (row (some ⟨w.heap.size, 0, none⟩) 0 s e [] :: A) (w.alloc (.cells #[] e)) := (Own.intro_cel (vs := []) (fz := (0, 0)) (NF.zero _) (by simpa using hw.alloc (.cells #[] e))).cel_row (by simp) (by simp [maxLen])
    refine ⟨.value (.slice (some ⟨w.heap.size, 0, none⟩) 0 0), _, _, _, ?_, put_act .., hO, h _⟩
    simp [execOp, Instr.buildSlice, run_underlying ht, sizeOf, typeInfo, hi, hs, Result.andThen, Instr.fill, newRow, Array.range_zero']
end

section
variable {P : Program} {w0 w : World} {n : Nat} {r : Option Nat} {ds : List Deferred} {Q : Exit → Act → World → Prop} {ρ : Env} {A : List HProp} {c : Code} {ee : Exit}
theorem WG.ex {ι : Type} {B : ι → List HProp} {q : ι → Prop} (hA : ∀ w, Own w0 A w → ∃ i, q i ∧ Own w0 (B i) w) (h : ∀ i, q i → WG P w0 r ds n c Q ρ (B i)) : WG P w0 r ds n c Q ρ A := ⟨fun w hw => by
  obtain ⟨i, hi, hO⟩ := hA w hw
  exact (h i hi).run w hO⟩
theorem WX.exi {ι : Type} {B : ι → List HProp} {q : ι → Prop} (hA : ∀ w, Own w0 A w → ∃ i, q i ∧ Own w0 (B i) w) (h : ∀ i, q i → WX w0 n Q ee ρ (B i)) : WX w0 n Q ee ρ A := ⟨fun w hw => by
  obtain ⟨i, hi, hO⟩ := hA w hw
  exact (h i hi).run w hO⟩
theorem Own.pk7 {A B C D E F G H : HProp} {R : List HProp} (h : Own w0 (A :: B :: C :: D :: E :: F :: G :: H :: R) w) : Own w0 (H :: A :: B :: C :: D :: E :: F :: G :: R) w := h.perm (perm_pk [A, B, C, D, E, F, G] H R)
theorem Own.pk8 {A B C D E F G H I : HProp} {R : List HProp} (h : Own w0 (A :: B :: C :: D :: E :: F :: G :: H :: I :: R) w) : Own w0 (I :: A :: B :: C :: D :: E :: F :: G :: H :: R) w := h.perm (perm_pk [A, B, C, D, E, F, G, H] I R)
theorem Own.pk9 {A B C D E F G H I J : HProp} {R : List HProp} (h : Own w0 (A :: B :: C :: D :: E :: F :: G :: H :: I :: J :: R) w) : Own w0 (J :: A :: B :: C :: D :: E :: F :: G :: H :: I :: R) w := h.perm (perm_pk [A, B, C, D, E, F, G, H, I] J R)
end
end Go.Sl
