/-
  Layer 4: how values are reckoned: functions that hold on to other functions.
-/
import Derived.Test.YtoeglkkmjmhmiaaDoorExprSpecC
set_option linter.unusedVariables false
set_option linter.unusedSimpArgs false
set_option maxRecDepth 4000
namespace Go.Proofs.YtoeglkkmjmhmiaaDoor
open Go.Sl Go.RowKit Go.Expr

/-- an expression and where what its functions hold on to lies -/
inductive MT
  | num (n : Nat) (b : Nat)
  | nm (c : UInt8)
  | sg (neg : Bool) (bo be : Nat) (x : MT)
  | bn (o : Bo) (bd ba bb : Nat) (x y : MT)
def MT.tr : MT → Tr
  | .num n _ => .num n
  | .nm c => .nm c
  | .sg neg _ _ x => .sg neg x.tr
  | .bn o _ _ _ x y => .bn o x.tr y.tr
abbrev pv (b : Nat) : Value := .pointer (some ⟨b, 0, none⟩)
def fnOf : MT → FuncId
  | .num _ _ => 57
  | .nm c => if c = 110 then 60 else if c = 116 then 61 else 62
  | .sg _ _ _ _ => 39
  | .bn _ _ _ _ _ _ => 33
def capOf : MT → List Value
  | .num _ b => [pv b]
  | .nm _ => []
  | .sg _ bo be _ => [pv bo, pv be]
  | .bn _ bd ba bb _ _ => [pv bd, pv ba, pv bb]
def fvOf (m : MT) : Value := .func (.func (fnOf m)) #[] (capOf m).toArray
def sgS (neg : Bool) : ByteArray := bs [if neg then 45 else 33]
def hmt : MT → HProp
  | .num n b => cel b [.int .i64 (n : Int)] 3
  | .nm _ => emp
  | .sg neg bo be x => star (cel bo [.string (sgS neg)] 9) (star (cel be [fvOf x] 33) (hmt x))
  | .bn o bd ba bb x y => star (cel bd [doV (.bin o)] 67) (star (cel ba [fvOf x] 33) (star (cel bb [fvOf y] 33) (star (hmt x) (hmt y))))
theorem fnOf_call (m : MT) : callT Tryd.prog (fnOf m) = true := by
  cases m with
  | num _ _ => exact ct57
  | nm c =>
    show callT Tryd.prog (if c = 110 then 60 else if c = 116 then 61 else 62) = true
    by_cases h1 : c = 110
    · rw [if_pos h1]; exact ct60
    · rw [if_neg h1]
      by_cases h2 : c = 116
      · rw [if_pos h2]; exact ct61
      · rw [if_neg h2]; exact ct62
  | sg _ _ _ _ => exact ct39
  | bn _ _ _ _ _ _ => exact ct33
theorem ex_num {w0 : World} {A : List HProp} {b : Nat} {k n t v : Int} : Fun Tryd.prog w0 57 [.int .i64 n, .int .i64 t, .int .i64 v, pv b] (cel b [.int .i64 k] 3 :: A) (Ret w0 (fun _ : Unit => True) (fun _ => .int .i64 k) (fun _ => cel b [.int .i64 k] 3 :: A)) := by
  refine Fun.enter Tryd.func57 rfl Tryd.ntmps57 rfl ?_
  exact WC.seq <| WC.region <| sv (vaI rfl) <| WL.nil <| WX.thenN <| WC.seq <| WC.region <| sv (vldc pl3 rfl) <| sv (vaI rfl) <| WL.nil <| WX.thenN <| WC.ret <| WX.ret1 rfl (()) (trivial) rfl (fun _ h => Sb.own (by repeat' (first | with_reducible exact Sb.all | exact Sb.nil | (apply Sb.cons; focus (first | ((repeat (first | with_reducible exact Tk.here | with_reducible apply Tk.there)); done) | ((repeat (first | exact Tk.here | apply Tk.there)); done))) | apply Sb.drop)) h)
theorem ex_nmn {w0 : World} {A : List HProp} {n t v : Int} : Fun Tryd.prog w0 60 [.int .i64 n, .int .i64 t, .int .i64 v] A (Ret w0 (fun _ : Unit => True) (fun _ => .int .i64 n) (fun _ => A)) := by
  refine Fun.enter Tryd.func60 rfl Tryd.ntmps60 rfl ?_
  exact WC.seq <| WC.region <| sv (vaI rfl) <| WL.nil <| WX.thenN <| WC.seq <| WC.region <| sv (vmI rfl) <| sv (vaI rfl) <| WL.nil <| WX.thenN <| WC.ret <| WX.ret1 rfl (()) (trivial) rfl (fun _ h => Sb.own (by repeat' (first | with_reducible exact Sb.all | exact Sb.nil | (apply Sb.cons; focus (first | ((repeat (first | with_reducible exact Tk.here | with_reducible apply Tk.there)); done) | ((repeat (first | exact Tk.here | apply Tk.there)); done))) | apply Sb.drop)) h)
theorem ex_nmt {w0 : World} {A : List HProp} {n t v : Int} : Fun Tryd.prog w0 61 [.int .i64 n, .int .i64 t, .int .i64 v] A (Ret w0 (fun _ : Unit => True) (fun _ => .int .i64 t) (fun _ => A)) := by
  refine Fun.enter Tryd.func61 rfl Tryd.ntmps61 rfl ?_
  exact WC.seq <| WC.region <| sv (vaI rfl) <| WL.nil <| WX.thenN <| WC.seq <| WC.region <| sv (vmI rfl) <| sv (vaI rfl) <| WL.nil <| WX.thenN <| WC.ret <| WX.ret1 rfl (()) (trivial) rfl (fun _ h => Sb.own (by repeat' (first | with_reducible exact Sb.all | exact Sb.nil | (apply Sb.cons; focus (first | ((repeat (first | with_reducible exact Tk.here | with_reducible apply Tk.there)); done) | ((repeat (first | exact Tk.here | apply Tk.there)); done))) | apply Sb.drop)) h)
theorem ex_nmv {w0 : World} {A : List HProp} {n t v : Int} : Fun Tryd.prog w0 62 [.int .i64 n, .int .i64 t, .int .i64 v] A (Ret w0 (fun _ : Unit => True) (fun _ => .int .i64 v) (fun _ => A)) := by
  refine Fun.enter Tryd.func62 rfl Tryd.ntmps62 rfl ?_
  exact WC.seq <| WC.region <| sv (vaI rfl) <| WL.nil <| WX.thenN <| WC.seq <| WC.region <| sv (vmI rfl) <| sv (vaI rfl) <| WL.nil <| WX.thenN <| WC.ret <| WX.ret1 rfl (()) (trivial) rfl (fun _ h => Sb.own (by repeat' (first | with_reducible exact Sb.all | exact Sb.nil | (apply Sb.cons; focus (first | ((repeat (first | with_reducible exact Tk.here | with_reducible apply Tk.there)); done) | ((repeat (first | exact Tk.here | apply Tk.there)); done))) | apply Sb.drop)) h)
def sgI (neg : Bool) (e : Int) : Int := if neg then IntKind.i64.wrap (0 - e) else bit (e = 0)
theorem ex_sg {w0 : World} {A : List HProp} {H : HProp} {neg : Bool} {bo be : Nat} {f : FuncId} {cap : List Value} {n t v e : Int} (hct : callT Tryd.prog f = true)
    (hf : ∀ A, Fun Tryd.prog w0 f ([.int .i64 n, .int .i64 t, .int .i64 v] ++ cap) (H :: A) (Ret w0 (fun _ : Unit => True) (fun _ => .int .i64 e) (fun _ => H :: A))) :
    Fun Tryd.prog w0 39 [.int .i64 n, .int .i64 t, .int .i64 v, pv bo, pv be] (cel bo [.string (sgS neg)] 9 :: cel be [.func (.func f) #[] cap.toArray] 33 :: H :: A)
      (Ret w0 (fun _ : Unit => True) (fun _ => .int .i64 (sgI neg e)) (fun _ => cel bo [.string (sgS neg)] 9 :: cel be [.func (.func f) #[] cap.toArray] 33 :: H :: A)) := by
  refine Fun.enter Tryd.func39 rfl Tryd.ntmps39 rfl ?_
  refine WC.seq <| WC.region <| sv (vaI rfl) <| WL.nil <| WX.thenN <| WC.seq <| WC.seq <| WC.region <| sv (vldc pl9 rfl) <| sv (veqs rfl rfl) <| WL.nil <| WX.thenN <| ?_
  refine WC.ite rfl (fun h1 => ?_) (fun h1 => ?_)
  · -- then
    have hn : neg = true := by
      cases neg with
      | true => rfl
      | false => exact absurd h1 (by unfold sgS; decide)
    subst hn
    exact WC.seq <| WC.region <| sv (vldc pl33 rfl) <| sv (vmI rfl) <| sv (vmI rfl) <| sv (vmI rfl) <| clvx (by repeat' (first | with_reducible exact Sb.all | exact Sb.nil | (apply Sb.cons; focus (first | ((repeat (first | with_reducible exact Tk.here | with_reducible apply Tk.there)); done) | ((repeat (first | exact Tk.here | apply Tk.there)); done))) | apply Sb.drop)) (hf _) hct rfl rfl fun r3 hr3 => sv (vneg rfl) <| sv (vaI rfl) <| WL.nil <| WX.thenN <| WC.ret <| WX.thenR <| WX.ret1 rfl (()) (trivial) rfl (fun _ h => Sb.own (by repeat' (first | with_reducible exact Sb.all | exact Sb.nil | (apply Sb.cons; focus (first | ((repeat (first | with_reducible exact Tk.here | with_reducible apply Tk.there)); done) | ((repeat (first | exact Tk.here | apply Tk.there)); done))) | apply Sb.drop)) h)
  · -- else
    have hn : neg = false := by
      cases neg with
      | false => rfl
      | true => exact absurd (by unfold sgS; decide) h1
    subst hn
    refine WC.skip <| WX.thenN <| WC.seq <| WC.region <| sv (vldc pl33 rfl) <| sv (vmI rfl) <| sv (vmI rfl) <| sv (vmI rfl) <| clvx (by repeat' (first | with_reducible exact Sb.all | exact Sb.nil | (apply Sb.cons; focus (first | ((repeat (first | with_reducible exact Tk.here | with_reducible apply Tk.there)); done) | ((repeat (first | exact Tk.here | apply Tk.there)); done))) | apply Sb.drop)) (hf _) hct rfl rfl fun r5 hr5 => sv (veq rfl rfl) <| clx (by repeat' (first | with_reducible exact Sb.all | exact Sb.nil | (apply Sb.cons; focus (first | ((repeat (first | with_reducible exact Tk.here | with_reducible apply Tk.there)); done) | ((repeat (first | exact Tk.here | apply Tk.there)); done))) | apply Sb.drop)) (ex_truth) ct40 rfl fun r6 hr6 => ?_
    exact sv (vaI rfl) <| WL.nil <| WX.thenN <| WC.ret <| WX.ret1 rfl (()) (trivial) (tr_bit Iff.rfl) (fun _ h => Sb.own (by repeat' (first | with_reducible exact Sb.all | exact Sb.nil | (apply Sb.cons; focus (first | ((repeat (first | with_reducible exact Tk.here | with_reducible apply Tk.there)); done) | ((repeat (first | exact Tk.here | apply Tk.there)); done))) | apply Sb.drop)) h)
theorem ex_bn {w0 : World} {A : List HProp} {H1 H2 : HProp} {o : Bo} {bd ba bb : Nat} {f1 f2 : FuncId} {cap1 cap2 : List Value} {n t v e1 e2 : Int} (hc1 : callT Tryd.prog f1 = true) (hc2 : callT Tryd.prog f2 = true) (he1 : I64 e1) (he2 : I64 e2)
    (hf1 : ∀ A, Fun Tryd.prog w0 f1 ([.int .i64 n, .int .i64 t, .int .i64 v] ++ cap1) (H1 :: A) (Ret w0 (fun _ : Unit => True) (fun _ => .int .i64 e1) (fun _ => H1 :: A)))
    (hf2 : ∀ A, Fun Tryd.prog w0 f2 ([.int .i64 n, .int .i64 t, .int .i64 v] ++ cap2) (H2 :: A) (Ret w0 (fun _ : Unit => True) (fun _ => .int .i64 e2) (fun _ => H2 :: A))) :
    Fun Tryd.prog w0 33 [.int .i64 n, .int .i64 t, .int .i64 v, pv bd, pv ba, pv bb] (cel bd [.func (.func (boF o)) #[] #[]] 67 :: cel ba [.func (.func f1) #[] cap1.toArray] 33 :: cel bb [.func (.func f2) #[] cap2.toArray] 33 :: H1 :: H2 :: A)
      (Ret w0 (fun _ : Unit => True) (fun _ => .int .i64 (twoI o e1 e2)) (fun _ => cel bd [.func (.func (boF o)) #[] #[]] 67 :: cel ba [.func (.func f1) #[] cap1.toArray] 33 :: cel bb [.func (.func f2) #[] cap2.toArray] 33 :: H1 :: H2 :: A)) := by
  refine Fun.enter Tryd.func33 rfl Tryd.ntmps33 rfl ?_
  exact WC.seq <| WC.region <| sv (vaI rfl) <| WL.nil <| WX.thenN <| WC.seq <| WC.draws rfl (by kernel_rfl) <| qv (vldc pl67 rfl) <| qv (vldc pl33 rfl) <| qv (vmI rfl) <| qv (vmI rfl) <| qv (vmI rfl) <| qclv (cap := cap1) (Quiet.spl (X := [H1]) (by repeat' (first | exact Spl.nil | (apply Spl.cons; focus (first | ((repeat (first | with_reducible exact Tk.here | with_reducible apply Tk.there)); done) | ((repeat (first | exact Tk.here | apply Tk.there)); done))))) (hf1 _)) (hc1) rfl rfl <| qv (vldc pl33 rfl) <| qv (vmI rfl) <| qv (vmI rfl) <| qv (vmI rfl) <| qclv (cap := cap2) (Quiet.spl (X := [H2]) (by repeat' (first | exact Spl.nil | (apply Spl.cons; focus (first | ((repeat (first | with_reducible exact Tk.here | with_reducible apply Tk.there)); done) | ((repeat (first | exact Tk.here | apply Tk.there)); done))))) (hf2 _)) (hc2) rfl rfl <| qclv (cap := []) (Fun.quiet (ex_bo o he1 he2)) (boF_call o) rfl rfl <| qv (vaI rfl) <| WQ.nil <| WX.thenN <| WC.ret <| WX.ret1 rfl (()) (trivial) rfl (fun _ h => Sb.own (by repeat' (first | with_reducible exact Sb.all | exact Sb.nil | (apply Sb.cons; focus (first | ((repeat (first | with_reducible exact Tk.here | with_reducible apply Tk.there)); done) | ((repeat (first | exact Tk.here | apply Tk.there)); done))) | apply Sb.drop)) h)
theorem wrap_i64 (a : Int) : I64 (IntKind.i64.wrap a) := by
  have h1 := Int.emod_nonneg a (show (18446744073709551616 : Int) ≠ 0 by decide)
  have h2 := Int.emod_lt_of_pos a (show (0 : Int) < 18446744073709551616 by decide)
  have e : IntKind.i64.wrap a = if a % 18446744073709551616 ≥ 9223372036854775808 then a % 18446744073709551616 - 18446744073709551616 else a % 18446744073709551616 := by
    simp [IntKind.wrap, IntKind.signed, IntKind.bits]
  rw [e]
  split <;> (constructor <;> omega)
theorem bit_i64 (p : Prop) [Decidable p] : I64 (bit p) := by unfold bit; split <;> (constructor <;> decide)
theorem two_i64 (o : Bo) {a b : Int} (ha : I64 a) (hb : I64 b) : I64 (twoI o a b) := by
  cases o
  all_goals first | exact bit_i64 _ | exact wrap_i64 _ | skip
  · unfold twoI; dsimp only; split
    · constructor <;> decide
    · exact wrap_i64 _
  · unfold twoI; dsimp only; split
    · constructor <;> decide
    · rename_i hb0
      have h1 := Int.natAbs_tmod a b
      have h2 : a.natAbs % b.natAbs < b.natAbs := Nat.mod_lt _ (by omega)
      have h3 : a.natAbs % b.natAbs ≤ a.natAbs := Nat.mod_le _ _
      obtain ⟨a1, a2⟩ := ha
      obtain ⟨b1, b2⟩ := hb
      constructor <;> omega
/-- numbers as they are read -/
def Sm : Tr → Prop
  | .num n => n < 1000000000000000000
  | .nm c => c = 110 ∨ c = 116 ∨ c = 118
  | .sg _ x => Sm x
  | .bn _ x y => Sm x ∧ Sm y
theorem eval_i64 {n t v : Int} (hn : I64 n) (ht : I64 t) (hv : I64 v) : ∀ x : Tr, Sm x → I64 (evalI n t v x)
  | .num k, h => by unfold Sm at h; unfold evalI; constructor <;> omega
  | .nm c, _ => by unfold evalI; split; exact hn; split; exact ht; exact hv
  | .sg true x, _ => wrap_i64 _
  | .sg false x, _ => bit_i64 _
  | .bn o x y, h => two_i64 o (eval_i64 hn ht hv x h.1) (eval_i64 hn ht hv y h.2)
theorem sg_open {w0 w : World} {A : List HProp} {neg : Bool} {bo be : Nat} {x : MT} (H : Own w0 (hmt (.sg neg bo be x) :: A) w) : Own w0 (cel bo [.string (sgS neg)] 9 :: cel be [fvOf x] 33 :: hmt x :: A) w := by
  have h1 : Own w0 (star (cel be [fvOf x] 33) (hmt x) :: cel bo [.string (sgS neg)] 9 :: A) w := (Own.star H).pk1
  have h2 := Own.star h1
  exact h2.ix [2, 0, 1]
theorem sg_close {w0 w : World} {A : List HProp} {neg : Bool} {bo be : Nat} {x : MT} (H : Own w0 (cel bo [.string (sgS neg)] 9 :: cel be [fvOf x] 33 :: hmt x :: A) w) : Own w0 (hmt (.sg neg bo be x) :: A) w :=
  (H.ix [1, 2, 0]).intro_star.pk1.intro_star
theorem bn_open {w0 w : World} {A : List HProp} {o : Bo} {bd ba bb : Nat} {x y : MT} (H : Own w0 (hmt (.bn o bd ba bb x y) :: A) w) : Own w0 (cel bd [doV (.bin o)] 67 :: cel ba [fvOf x] 33 :: cel bb [fvOf y] 33 :: hmt x :: hmt y :: A) w := by
  have h1 := (Own.star H).pk1
  have h2 := (Own.star h1).pk1
  have h3 := (Own.star h2).pk1
  have h4 := Own.star h3
  exact h4.ix [4, 3, 2, 0, 1]
theorem bn_close {w0 w : World} {A : List HProp} {o : Bo} {bd ba bb : Nat} {x y : MT} (H : Own w0 (cel bd [doV (.bin o)] 67 :: cel ba [fvOf x] 33 :: cel bb [fvOf y] 33 :: hmt x :: hmt y :: A) w) : Own w0 (hmt (.bn o bd ba bb x y) :: A) w := by
  have h1 := (H.ix [3, 4, 2, 1, 0]).intro_star
  have h2 := (h1.pk1).intro_star
  have h3 := (h2.pk1).intro_star
  exact (h3.pk1).intro_star
theorem ex_eval {w0 : World} {n t v : Int} (hn : I64 n) (ht : I64 t) (hv : I64 v) : ∀ (m : MT), Sm m.tr → ∀ (A : List HProp), Fun Tryd.prog w0 (fnOf m) ([.int .i64 n, .int .i64 t, .int .i64 v] ++ capOf m) (hmt m :: A) (Ret w0 (fun _ : Unit => True) (fun _ => .int .i64 (evalI n t v m.tr)) (fun _ => hmt m :: A))
  | .num k b, _, A => ex_num
  | .nm c, h, A => by
    show Fun Tryd.prog w0 (if c = 110 then 60 else if c = 116 then 61 else 62) [.int .i64 n, .int .i64 t, .int .i64 v] (hmt (.nm c) :: A) (Ret w0 (fun _ : Unit => True) (fun _ => .int .i64 (if c = 110 then n else if c = 116 then t else v)) (fun _ => hmt (.nm c) :: A))
    by_cases h1 : c = 110
    · rw [if_pos h1, if_pos h1]; exact ex_nmn
    · rw [if_neg h1, if_neg h1]
      by_cases h2 : c = 116
      · rw [if_pos h2, if_pos h2]; exact ex_nmt
      · rw [if_neg h2, if_neg h2]; exact ex_nmv
  | .sg neg bo be x, h, A => by
    have ih := ex_eval (w0 := w0) hn ht hv x h
    have e : evalI n t v (MT.sg neg bo be x).tr = sgI neg (evalI n t v x.tr) := by cases neg <;> rfl
    rw [e]
    exact ((ex_sg (A := A) (neg := neg) (bo := bo) (be := be) (fnOf_call x) ih).perm fun w h => sg_open h).mono fun e w ⟨i, hi, he, hO⟩ => ⟨i, hi, he, sg_close hO⟩
  | .bn o bd ba bb x y, h, A => by
    have ih1 := ex_eval (w0 := w0) hn ht hv x h.1
    have ih2 := ex_eval (w0 := w0) hn ht hv y h.2
    exact ((ex_bn (A := A) (o := o) (bd := bd) (ba := ba) (bb := bb) (fnOf_call x) (fnOf_call y) (eval_i64 hn ht hv _ h.1) (eval_i64 hn ht hv _ h.2) ih1 ih2).perm fun w h => bn_open h).mono fun e w ⟨i, hi, he, hO⟩ => ⟨i, hi, he, bn_close hO⟩
end Go.Proofs.YtoeglkkmjmhmiaaDoor
