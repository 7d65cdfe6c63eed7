/-
  Layer 4: operators: ranks, what they do.
-/
import Derived.Test.YtoeglkkmjmhmiaaDoorExprSpecB
set_option linter.unusedVariables false
set_option linter.unusedSimpArgs false
set_option maxRecDepth 4000
namespace Go.Proofs.YtoeglkkmjmhmiaaDoor
open Go.Sl Go.RowKit Go.Expr

def boF : Bo → FuncId
  | .or_ => 41
  | .and_ => 42
  | .eq_ => 43
  | .ne_ => 44
  | .le_ => 45
  | .ge_ => 46
  | .lt_ => 47
  | .gt_ => 48
  | .add_ => 49
  | .sub_ => 50
  | .mul_ => 51
  | .div_ => 52
  | .rem_ => 53
def doV : Wd → Value
  | .bin o => .func (.func (boF o)) #[] #[]
  | _ => .nilFunc
def rankW : Wd → Nat
  | .bin o => o.rank
  | _ => 0
def binS (s : ByteArray) : Int × Value :=
  if s = ByteArray.mk #[124, 124] then (1, .func (.func 41) #[] #[]) else
  if s = ByteArray.mk #[38, 38] then (2, .func (.func 42) #[] #[]) else
  if s = ByteArray.mk #[61, 61] then (3, .func (.func 43) #[] #[]) else
  if s = ByteArray.mk #[33, 61] then (3, .func (.func 44) #[] #[]) else
  if s = ByteArray.mk #[60, 61] then (3, .func (.func 45) #[] #[]) else
  if s = ByteArray.mk #[62, 61] then (3, .func (.func 46) #[] #[]) else
  if s = ByteArray.mk #[60] then (3, .func (.func 47) #[] #[]) else
  if s = ByteArray.mk #[62] then (3, .func (.func 48) #[] #[]) else
  if s = ByteArray.mk #[43] then (4, .func (.func 49) #[] #[]) else
  if s = ByteArray.mk #[45] then (4, .func (.func 50) #[] #[]) else
  if s = ByteArray.mk #[42] then (5, .func (.func 51) #[] #[]) else
  if s = ByteArray.mk #[47] then (5, .func (.func 52) #[] #[]) else
  if s = ByteArray.mk #[37] then (5, .func (.func 53) #[] #[]) else
  (0, .nilFunc)
theorem binS_w (w : Wd) : binS (bs w.bytes) = (((rankW w : Nat) : Int), doV w) := by
  cases w with
  | bin o => cases o <;> rfl
  | _ => rfl
theorem ex_binaryS {w0 : World} {A : List HProp} {s : ByteArray} : Fun Tryd.prog w0 31 [.string s] A (Ret w0 (fun _ : Unit => True) (fun _ => .tuple #[.int .i64 (binS s).1, (binS s).2]) (fun _ => A)) := by
  refine Fun.enter Tryd.func31 rfl Tryd.ntmps31 rfl ?_
  refine WC.seq <| WC.region <| sv (vaI rfl) <| sv (vaN rfl) <| WL.nil <| WX.thenN <| WC.seq <| WC.seq <| WC.region <| sv (vmT rfl) <| WL.nil <| WX.thenN <| WC.block <| WC.seq <| WC.region <| sv (veqs rfl rfl) <| sv (vaB rfl) <| WL.nil <| WX.thenN <| ?_
  refine WC.ite rfl (fun h1 => ?_) (fun h1 => ?_)
  · -- then
    exact WC.seq <| WC.region <| sv (vaI rfl) <| sv (vaF rfl) <| WL.nil <| WX.thenN <| WC.ret <| WX.blockR <| WX.thenR <| WX.ret2 rfl (()) (trivial) (by unfold binS; rw [if_pos h1]; rfl) (fun _ h => Sb.own (by repeat' (first | with_reducible exact Sb.all | exact Sb.nil | (apply Sb.cons; focus (first | ((repeat (first | with_reducible exact Tk.here | with_reducible apply Tk.there)); done) | ((repeat (first | exact Tk.here | apply Tk.there)); done))) | apply Sb.drop)) h)
  · -- else
    refine WC.seq <| WC.region <| sv (veqs rfl rfl) <| sv (vaB rfl) <| WL.nil <| WX.thenN <| ?_
    refine WC.ite rfl (fun h2 => ?_) (fun h2 => ?_)
    · -- then
      exact WC.seq <| WC.region <| sv (vaI rfl) <| sv (vaF rfl) <| WL.nil <| WX.thenN <| WC.ret <| WX.blockR <| WX.thenR <| WX.ret2 rfl (()) (trivial) (by unfold binS; rw [if_neg h1, if_pos h2]; rfl) (fun _ h => Sb.own (by repeat' (first | with_reducible exact Sb.all | exact Sb.nil | (apply Sb.cons; focus (first | ((repeat (first | with_reducible exact Tk.here | with_reducible apply Tk.there)); done) | ((repeat (first | exact Tk.here | apply Tk.there)); done))) | apply Sb.drop)) h)
    · -- else
      refine WC.seq <| WC.region <| sv (veqs rfl rfl) <| sv (vaB rfl) <| WL.nil <| WX.thenN <| ?_
      refine WC.ite rfl (fun h3 => ?_) (fun h3 => ?_)
      · -- then
        exact WC.seq <| WC.region <| sv (vaI rfl) <| sv (vaF rfl) <| WL.nil <| WX.thenN <| WC.ret <| WX.blockR <| WX.thenR <| WX.ret2 rfl (()) (trivial) (by unfold binS; rw [if_neg h1, if_neg h2, if_pos h3]; rfl) (fun _ h => Sb.own (by repeat' (first | with_reducible exact Sb.all | exact Sb.nil | (apply Sb.cons; focus (first | ((repeat (first | with_reducible exact Tk.here | with_reducible apply Tk.there)); done) | ((repeat (first | exact Tk.here | apply Tk.there)); done))) | apply Sb.drop)) h)
      · -- else
        refine WC.seq <| WC.region <| sv (veqs rfl rfl) <| sv (vaB rfl) <| WL.nil <| WX.thenN <| ?_
        refine WC.ite rfl (fun h4 => ?_) (fun h4 => ?_)
        · -- then
          exact WC.seq <| WC.region <| sv (vaI rfl) <| sv (vaF rfl) <| WL.nil <| WX.thenN <| WC.ret <| WX.blockR <| WX.thenR <| WX.ret2 rfl (()) (trivial) (by unfold binS; rw [if_neg h1, if_neg h2, if_neg h3, if_pos h4]; rfl) (fun _ h => Sb.own (by repeat' (first | with_reducible exact Sb.all | exact Sb.nil | (apply Sb.cons; focus (first | ((repeat (first | with_reducible exact Tk.here | with_reducible apply Tk.there)); done) | ((repeat (first | exact Tk.here | apply Tk.there)); done))) | apply Sb.drop)) h)
        · -- else
          refine WC.seq <| WC.region <| sv (veqs rfl rfl) <| sv (vaB rfl) <| WL.nil <| WX.thenN <| ?_
          refine WC.ite rfl (fun h5 => ?_) (fun h5 => ?_)
          · -- then
            exact WC.seq <| WC.region <| sv (vaI rfl) <| sv (vaF rfl) <| WL.nil <| WX.thenN <| WC.ret <| WX.blockR <| WX.thenR <| WX.ret2 rfl (()) (trivial) (by unfold binS; rw [if_neg h1, if_neg h2, if_neg h3, if_neg h4, if_pos h5]; rfl) (fun _ h => Sb.own (by repeat' (first | with_reducible exact Sb.all | exact Sb.nil | (apply Sb.cons; focus (first | ((repeat (first | with_reducible exact Tk.here | with_reducible apply Tk.there)); done) | ((repeat (first | exact Tk.here | apply Tk.there)); done))) | apply Sb.drop)) h)
          · -- else
            refine WC.seq <| WC.region <| sv (veqs rfl rfl) <| sv (vaB rfl) <| WL.nil <| WX.thenN <| ?_
            refine WC.ite rfl (fun h6 => ?_) (fun h6 => ?_)
            · -- then
              exact WC.seq <| WC.region <| sv (vaI rfl) <| sv (vaF rfl) <| WL.nil <| WX.thenN <| WC.ret <| WX.blockR <| WX.thenR <| WX.ret2 rfl (()) (trivial) (by unfold binS; rw [if_neg h1, if_neg h2, if_neg h3, if_neg h4, if_neg h5, if_pos h6]; rfl) (fun _ h => Sb.own (by repeat' (first | with_reducible exact Sb.all | exact Sb.nil | (apply Sb.cons; focus (first | ((repeat (first | with_reducible exact Tk.here | with_reducible apply Tk.there)); done) | ((repeat (first | exact Tk.here | apply Tk.there)); done))) | apply Sb.drop)) h)
            · -- else
              refine WC.seq <| WC.region <| sv (veqs rfl rfl) <| sv (vaB rfl) <| WL.nil <| WX.thenN <| ?_
              refine WC.ite rfl (fun h7 => ?_) (fun h7 => ?_)
              · -- then
                exact WC.seq <| WC.region <| sv (vaI rfl) <| sv (vaF rfl) <| WL.nil <| WX.thenN <| WC.ret <| WX.blockR <| WX.thenR <| WX.ret2 rfl (()) (trivial) (by unfold binS; rw [if_neg h1, if_neg h2, if_neg h3, if_neg h4, if_neg h5, if_neg h6, if_pos h7]; rfl) (fun _ h => Sb.own (by repeat' (first | with_reducible exact Sb.all | exact Sb.nil | (apply Sb.cons; focus (first | ((repeat (first | with_reducible exact Tk.here | with_reducible apply Tk.there)); done) | ((repeat (first | exact Tk.here | apply Tk.there)); done))) | apply Sb.drop)) h)
              · -- else
                refine WC.seq <| WC.region <| sv (veqs rfl rfl) <| sv (vaB rfl) <| WL.nil <| WX.thenN <| ?_
                refine WC.ite rfl (fun h8 => ?_) (fun h8 => ?_)
                · -- then
                  exact WC.seq <| WC.region <| sv (vaI rfl) <| sv (vaF rfl) <| WL.nil <| WX.thenN <| WC.ret <| WX.blockR <| WX.thenR <| WX.ret2 rfl (()) (trivial) (by unfold binS; rw [if_neg h1, if_neg h2, if_neg h3, if_neg h4, if_neg h5, if_neg h6, if_neg h7, if_pos h8]; rfl) (fun _ h => Sb.own (by repeat' (first | with_reducible exact Sb.all | exact Sb.nil | (apply Sb.cons; focus (first | ((repeat (first | with_reducible exact Tk.here | with_reducible apply Tk.there)); done) | ((repeat (first | exact Tk.here | apply Tk.there)); done))) | apply Sb.drop)) h)
                · -- else
                  refine WC.seq <| WC.region <| sv (veqs rfl rfl) <| sv (vaB rfl) <| WL.nil <| WX.thenN <| ?_
                  refine WC.ite rfl (fun h9 => ?_) (fun h9 => ?_)
                  · -- then
                    exact WC.seq <| WC.region <| sv (vaI rfl) <| sv (vaF rfl) <| WL.nil <| WX.thenN <| WC.ret <| WX.blockR <| WX.thenR <| WX.ret2 rfl (()) (trivial) (by unfold binS; rw [if_neg h1, if_neg h2, if_neg h3, if_neg h4, if_neg h5, if_neg h6, if_neg h7, if_neg h8, if_pos h9]; rfl) (fun _ h => Sb.own (by repeat' (first | with_reducible exact Sb.all | exact Sb.nil | (apply Sb.cons; focus (first | ((repeat (first | with_reducible exact Tk.here | with_reducible apply Tk.there)); done) | ((repeat (first | exact Tk.here | apply Tk.there)); done))) | apply Sb.drop)) h)
                  · -- else
                    refine WC.seq <| WC.region <| sv (veqs rfl rfl) <| sv (vaB rfl) <| WL.nil <| WX.thenN <| ?_
                    refine WC.ite rfl (fun h10 => ?_) (fun h10 => ?_)
                    · -- then
                      exact WC.seq <| WC.region <| sv (vaI rfl) <| sv (vaF rfl) <| WL.nil <| WX.thenN <| WC.ret <| WX.blockR <| WX.thenR <| WX.ret2 rfl (()) (trivial) (by unfold binS; rw [if_neg h1, if_neg h2, if_neg h3, if_neg h4, if_neg h5, if_neg h6, if_neg h7, if_neg h8, if_neg h9, if_pos h10]; rfl) (fun _ h => Sb.own (by repeat' (first | with_reducible exact Sb.all | exact Sb.nil | (apply Sb.cons; focus (first | ((repeat (first | with_reducible exact Tk.here | with_reducible apply Tk.there)); done) | ((repeat (first | exact Tk.here | apply Tk.there)); done))) | apply Sb.drop)) h)
                    · -- else
                      refine WC.seq <| WC.region <| sv (veqs rfl rfl) <| sv (vaB rfl) <| WL.nil <| WX.thenN <| ?_
                      refine WC.ite rfl (fun h11 => ?_) (fun h11 => ?_)
                      · -- then
                        exact WC.seq <| WC.region <| sv (vaI rfl) <| sv (vaF rfl) <| WL.nil <| WX.thenN <| WC.ret <| WX.blockR <| WX.thenR <| WX.ret2 rfl (()) (trivial) (by unfold binS; rw [if_neg h1, if_neg h2, if_neg h3, if_neg h4, if_neg h5, if_neg h6, if_neg h7, if_neg h8, if_neg h9, if_neg h10, if_pos h11]; rfl) (fun _ h => Sb.own (by repeat' (first | with_reducible exact Sb.all | exact Sb.nil | (apply Sb.cons; focus (first | ((repeat (first | with_reducible exact Tk.here | with_reducible apply Tk.there)); done) | ((repeat (first | exact Tk.here | apply Tk.there)); done))) | apply Sb.drop)) h)
                      · -- else
                        refine WC.seq <| WC.region <| sv (veqs rfl rfl) <| sv (vaB rfl) <| WL.nil <| WX.thenN <| ?_
                        refine WC.ite rfl (fun h12 => ?_) (fun h12 => ?_)
                        · -- then
                          exact WC.seq <| WC.region <| sv (vaI rfl) <| sv (vaF rfl) <| WL.nil <| WX.thenN <| WC.ret <| WX.blockR <| WX.thenR <| WX.ret2 rfl (()) (trivial) (by unfold binS; rw [if_neg h1, if_neg h2, if_neg h3, if_neg h4, if_neg h5, if_neg h6, if_neg h7, if_neg h8, if_neg h9, if_neg h10, if_neg h11, if_pos h12]; rfl) (fun _ h => Sb.own (by repeat' (first | with_reducible exact Sb.all | exact Sb.nil | (apply Sb.cons; focus (first | ((repeat (first | with_reducible exact Tk.here | with_reducible apply Tk.there)); done) | ((repeat (first | exact Tk.here | apply Tk.there)); done))) | apply Sb.drop)) h)
                        · -- else
                          refine WC.seq <| WC.region <| sv (veqs rfl rfl) <| sv (vaB rfl) <| WL.nil <| WX.thenN <| ?_
                          refine WC.ite rfl (fun h13 => ?_) (fun h13 => ?_)
                          · -- then
                            exact WC.seq <| WC.region <| sv (vaI rfl) <| sv (vaF rfl) <| WL.nil <| WX.thenN <| WC.ret <| WX.blockR <| WX.thenR <| WX.ret2 rfl (()) (trivial) (by unfold binS; rw [if_neg h1, if_neg h2, if_neg h3, if_neg h4, if_neg h5, if_neg h6, if_neg h7, if_neg h8, if_neg h9, if_neg h10, if_neg h11, if_neg h12, if_pos h13]; rfl) (fun _ h => Sb.own (by repeat' (first | with_reducible exact Sb.all | exact Sb.nil | (apply Sb.cons; focus (first | ((repeat (first | with_reducible exact Tk.here | with_reducible apply Tk.there)); done) | ((repeat (first | exact Tk.here | apply Tk.there)); done))) | apply Sb.drop)) h)
                          · -- else
                            exact WC.skip <| WX.blockN <| WX.thenN <| WC.seq <| WC.region <| sv (vaI rfl) <| sv (vaN rfl) <| WL.nil <| WX.thenN <| WC.ret <| WX.ret2 rfl (()) (trivial) (by unfold binS; rw [if_neg h1, if_neg h2, if_neg h3, if_neg h4, if_neg h5, if_neg h6, if_neg h7, if_neg h8, if_neg h9, if_neg h10, if_neg h11, if_neg h12, if_neg h13]; rfl) (fun _ h => Sb.own (by repeat' (first | with_reducible exact Sb.all | exact Sb.nil | (apply Sb.cons; focus (first | ((repeat (first | with_reducible exact Tk.here | with_reducible apply Tk.there)); done) | ((repeat (first | exact Tk.here | apply Tk.there)); done))) | apply Sb.drop)) h)
theorem ex_binary {w0 : World} {A : List HProp} (w : Wd) : Fun Tryd.prog w0 31 [.string (bs w.bytes)] A (Ret w0 (fun _ : Unit => True) (fun _ => .tuple #[.int .i64 (rankW w : Nat), doV w]) (fun _ => A)) := by
  have h := ex_binaryS (w0 := w0) (A := A) (s := bs w.bytes)
  rwa [binS_w] at h
theorem wrap_nat {v : Nat} (h : v < 18446744073709551616) : IntKind.i64.wrap (v : Int) = 0 ↔ v = 0 := by
  constructor
  · intro h0
    simp only [IntKind.wrap, IntKind.signed, IntKind.bits] at h0
    omega
  · rintro rfl; rfl
theorem ofInt_zero {a : Int} (h : -9223372036854775808 ≤ a ∧ a ≤ 9223372036854775807) : BitVec.ofInt 64 a = 0 ↔ a = 0 := by
  constructor
  · intro h0
    have := congrArg BitVec.toInt h0
    rw [BitVec.toInt_ofInt, show (0 : BitVec 64).toInt = 0 by rfl] at this
    simp only [Int.bmod] at this
    omega
  · rintro rfl; rfl
theorem bor_zero {a b : Int} (ha : -9223372036854775808 ≤ a ∧ a ≤ 9223372036854775807) (hb : -9223372036854775808 ≤ b ∧ b ≤ 9223372036854775807) : bOr .i64 a b ≠ 0 ↔ (a ≠ 0 ∨ b ≠ 0) := by
  unfold bOr
  have e : IntKind.i64.bits = 64 := rfl
  rw [e, ne_eq, wrap_nat (BitVec.isLt _)]
  have : (BitVec.ofInt 64 a ||| BitVec.ofInt 64 b).toNat = 0 ↔ (BitVec.ofInt 64 a ||| BitVec.ofInt 64 b) = 0 := by
    constructor
    · intro h; exact BitVec.eq_of_toNat_eq (by simpa using h)
    · intro h; rw [h]; rfl
  rw [this]
  have h2 : (BitVec.ofInt 64 a ||| BitVec.ofInt 64 b) = 0 ↔ BitVec.ofInt 64 a = 0 ∧ BitVec.ofInt 64 b = 0 := by
    exact BitVec.or_eq_zero_iff
  rw [h2, ofInt_zero ha, ofInt_zero hb]
  omega
theorem tr_bit {p q : Prop} [Decidable p] [Decidable q] (h : p ↔ q) : Value.int .i64 (if decide p = true then 1 else 0) = .int .i64 (bit q) := by
  unfold bit
  by_cases hp : p
  · rw [if_pos (h.1 hp), decide_eq_true hp]; rfl
  · rw [if_neg (fun hq => hp (h.2 hq)), decide_eq_false hp]; rfl
theorem tr_F {q : Prop} [Decidable q] (h : ¬ q) : Value.int .i64 (if false = true then 1 else 0) = .int .i64 (bit q) := by simp [bit, h]
theorem tr_T {q : Prop} [Decidable q] (h : q) : Value.int .i64 (if true = true then 1 else 0) = .int .i64 (bit q) := by simp [bit, h]
abbrev I64 (a : Int) : Prop := -9223372036854775808 ≤ a ∧ a ≤ 9223372036854775807
theorem ex_bo_or {w0 : World} {A : List HProp} {a b : Int} (ha : I64 a) (hb : I64 b) : Fun Tryd.prog w0 41 [.int .i64 a, .int .i64 b] A (Ret w0 (fun _ : Unit => True) (fun _ => .int .i64 (twoI .or_ a b)) (fun _ => A)) := by
  unfold twoI
  dsimp only
  refine Fun.enter Tryd.func41 rfl Tryd.ntmps41 rfl ?_
  refine WC.seq <| WC.region <| sv (vaI rfl) <| WL.nil <| WX.thenN <| WC.seq <| WC.region <| sv (vmI rfl) <| sv (vmI rfl) <| sv (vor rfl rfl) <| sv (vne rfl rfl) <| clx (by repeat' (first | with_reducible exact Sb.all | exact Sb.nil | (apply Sb.cons; focus (first | ((repeat (first | with_reducible exact Tk.here | with_reducible apply Tk.there)); done) | ((repeat (first | exact Tk.here | apply Tk.there)); done))) | apply Sb.drop)) (ex_truth) ct40 rfl fun r1 hr1 => ?_
  exact sv (vaI rfl) <| WL.nil <| WX.thenN <| WC.ret <| WX.ret1 rfl (()) (trivial) (tr_bit (bor_zero ha hb)) (fun _ h => Sb.own (by repeat' (first | with_reducible exact Sb.all | exact Sb.nil | (apply Sb.cons; focus (first | ((repeat (first | with_reducible exact Tk.here | with_reducible apply Tk.there)); done) | ((repeat (first | exact Tk.here | apply Tk.there)); done))) | apply Sb.drop)) h)
theorem ex_bo_and {w0 : World} {A : List HProp} {a b : Int} (ha : I64 a) (hb : I64 b) : Fun Tryd.prog w0 42 [.int .i64 a, .int .i64 b] A (Ret w0 (fun _ : Unit => True) (fun _ => .int .i64 (twoI .and_ a b)) (fun _ => A)) := by
  unfold twoI
  dsimp only
  refine Fun.enter Tryd.func42 rfl Tryd.ntmps42 rfl ?_
  refine WC.seq <| WC.region <| sv (vaI rfl) <| WL.nil <| WX.thenN <| ?_
  refine WC.cutS [(4, .int .i64 (bit (a ≠ 0 ∧ b ≠ 0)))] [] trivial ?_ fun ρh => ?_
  · -- expr.go:87
    refine WC.region <| sv (vmI rfl) <| svs (vne rfl rfl) (fun q1 => ?_) (fun q1 => ?_)
    ·
      refine sv (vmB rfl) <| svg rfl (vmI rfl) <| svg rfl (vne rfl rfl) <| sv (vpkt rfl) <| clx (by repeat' (first | with_reducible exact Sb.all | exact Sb.nil | (apply Sb.cons; focus (first | ((repeat (first | with_reducible exact Tk.here | with_reducible apply Tk.there)); done) | ((repeat (first | exact Tk.here | apply Tk.there)); done))) | apply Sb.drop)) (ex_truth) ct40 rfl fun r1 hr1 => ?_
      exact sv (vaI rfl) <| WL.nil <| WX.mid () trivial ⟨tr_bit ⟨fun h => ⟨q1, h⟩, fun h => h.2⟩, trivial⟩ trivial (fun _ h => Sb.own (by repeat' (first | with_reducible exact Sb.all | exact Sb.nil | (apply Sb.cons; focus (first | ((repeat (first | with_reducible exact Tk.here | with_reducible apply Tk.there)); done) | ((repeat (first | exact Tk.here | apply Tk.there)); done))) | apply Sb.drop)) h)
    ·
      refine sv (vmB rfl) <| sng rfl <| sng rfl <| sv (vpkf rfl) <| clx (by repeat' (first | with_reducible exact Sb.all | exact Sb.nil | (apply Sb.cons; focus (first | ((repeat (first | with_reducible exact Tk.here | with_reducible apply Tk.there)); done) | ((repeat (first | exact Tk.here | apply Tk.there)); done))) | apply Sb.drop)) (ex_truth) ct40 rfl fun r1 hr1 => ?_
      exact sv (vaI rfl) <| WL.nil <| WX.mid () trivial ⟨tr_F (fun h => q1 h.1), trivial⟩ trivial (fun _ h => Sb.own (by repeat' (first | with_reducible exact Sb.all | exact Sb.nil | (apply Sb.cons; focus (first | ((repeat (first | with_reducible exact Tk.here | with_reducible apply Tk.there)); done) | ((repeat (first | exact Tk.here | apply Tk.there)); done))) | apply Sb.drop)) h)
  exact WC.ret <| WX.ret1 rfl (()) (trivial) rfl (fun _ h => Sb.own (by repeat' (first | with_reducible exact Sb.all | exact Sb.nil | (apply Sb.cons; focus (first | ((repeat (first | with_reducible exact Tk.here | with_reducible apply Tk.there)); done) | ((repeat (first | exact Tk.here | apply Tk.there)); done))) | apply Sb.drop)) h)
theorem ex_bo_eq {w0 : World} {A : List HProp} {a b : Int} (ha : I64 a) (hb : I64 b) : Fun Tryd.prog w0 43 [.int .i64 a, .int .i64 b] A (Ret w0 (fun _ : Unit => True) (fun _ => .int .i64 (twoI .eq_ a b)) (fun _ => A)) := by
  unfold twoI
  dsimp only
  refine Fun.enter Tryd.func43 rfl Tryd.ntmps43 rfl ?_
  refine WC.seq <| WC.region <| sv (vaI rfl) <| WL.nil <| WX.thenN <| WC.seq <| WC.region <| sv (vmI rfl) <| sv (vmI rfl) <| sv (veq rfl rfl) <| clx (by repeat' (first | with_reducible exact Sb.all | exact Sb.nil | (apply Sb.cons; focus (first | ((repeat (first | with_reducible exact Tk.here | with_reducible apply Tk.there)); done) | ((repeat (first | exact Tk.here | apply Tk.there)); done))) | apply Sb.drop)) (ex_truth) ct40 rfl fun r1 hr1 => ?_
  exact sv (vaI rfl) <| WL.nil <| WX.thenN <| WC.ret <| WX.ret1 rfl (()) (trivial) (tr_bit Iff.rfl) (fun _ h => Sb.own (by repeat' (first | with_reducible exact Sb.all | exact Sb.nil | (apply Sb.cons; focus (first | ((repeat (first | with_reducible exact Tk.here | with_reducible apply Tk.there)); done) | ((repeat (first | exact Tk.here | apply Tk.there)); done))) | apply Sb.drop)) h)
theorem ex_bo_ne {w0 : World} {A : List HProp} {a b : Int} (ha : I64 a) (hb : I64 b) : Fun Tryd.prog w0 44 [.int .i64 a, .int .i64 b] A (Ret w0 (fun _ : Unit => True) (fun _ => .int .i64 (twoI .ne_ a b)) (fun _ => A)) := by
  unfold twoI
  dsimp only
  refine Fun.enter Tryd.func44 rfl Tryd.ntmps44 rfl ?_
  refine WC.seq <| WC.region <| sv (vaI rfl) <| WL.nil <| WX.thenN <| WC.seq <| WC.region <| sv (vmI rfl) <| sv (vmI rfl) <| sv (vne rfl rfl) <| clx (by repeat' (first | with_reducible exact Sb.all | exact Sb.nil | (apply Sb.cons; focus (first | ((repeat (first | with_reducible exact Tk.here | with_reducible apply Tk.there)); done) | ((repeat (first | exact Tk.here | apply Tk.there)); done))) | apply Sb.drop)) (ex_truth) ct40 rfl fun r1 hr1 => ?_
  exact sv (vaI rfl) <| WL.nil <| WX.thenN <| WC.ret <| WX.ret1 rfl (()) (trivial) (tr_bit Iff.rfl) (fun _ h => Sb.own (by repeat' (first | with_reducible exact Sb.all | exact Sb.nil | (apply Sb.cons; focus (first | ((repeat (first | with_reducible exact Tk.here | with_reducible apply Tk.there)); done) | ((repeat (first | exact Tk.here | apply Tk.there)); done))) | apply Sb.drop)) h)
theorem ex_bo_le {w0 : World} {A : List HProp} {a b : Int} (ha : I64 a) (hb : I64 b) : Fun Tryd.prog w0 45 [.int .i64 a, .int .i64 b] A (Ret w0 (fun _ : Unit => True) (fun _ => .int .i64 (twoI .le_ a b)) (fun _ => A)) := by
  unfold twoI
  dsimp only
  refine Fun.enter Tryd.func45 rfl Tryd.ntmps45 rfl ?_
  refine WC.seq <| WC.region <| sv (vaI rfl) <| WL.nil <| WX.thenN <| WC.seq <| WC.region <| sv (vmI rfl) <| sv (vmI rfl) <| sv (vle rfl rfl) <| clx (by repeat' (first | with_reducible exact Sb.all | exact Sb.nil | (apply Sb.cons; focus (first | ((repeat (first | with_reducible exact Tk.here | with_reducible apply Tk.there)); done) | ((repeat (first | exact Tk.here | apply Tk.there)); done))) | apply Sb.drop)) (ex_truth) ct40 rfl fun r1 hr1 => ?_
  exact sv (vaI rfl) <| WL.nil <| WX.thenN <| WC.ret <| WX.ret1 rfl (()) (trivial) (tr_bit Iff.rfl) (fun _ h => Sb.own (by repeat' (first | with_reducible exact Sb.all | exact Sb.nil | (apply Sb.cons; focus (first | ((repeat (first | with_reducible exact Tk.here | with_reducible apply Tk.there)); done) | ((repeat (first | exact Tk.here | apply Tk.there)); done))) | apply Sb.drop)) h)
theorem ex_bo_ge {w0 : World} {A : List HProp} {a b : Int} (ha : I64 a) (hb : I64 b) : Fun Tryd.prog w0 46 [.int .i64 a, .int .i64 b] A (Ret w0 (fun _ : Unit => True) (fun _ => .int .i64 (twoI .ge_ a b)) (fun _ => A)) := by
  unfold twoI
  dsimp only
  refine Fun.enter Tryd.func46 rfl Tryd.ntmps46 rfl ?_
  refine WC.seq <| WC.region <| sv (vaI rfl) <| WL.nil <| WX.thenN <| WC.seq <| WC.region <| sv (vmI rfl) <| sv (vmI rfl) <| sv (vge rfl rfl) <| clx (by repeat' (first | with_reducible exact Sb.all | exact Sb.nil | (apply Sb.cons; focus (first | ((repeat (first | with_reducible exact Tk.here | with_reducible apply Tk.there)); done) | ((repeat (first | exact Tk.here | apply Tk.there)); done))) | apply Sb.drop)) (ex_truth) ct40 rfl fun r1 hr1 => ?_
  exact sv (vaI rfl) <| WL.nil <| WX.thenN <| WC.ret <| WX.ret1 rfl (()) (trivial) (tr_bit Iff.rfl) (fun _ h => Sb.own (by repeat' (first | with_reducible exact Sb.all | exact Sb.nil | (apply Sb.cons; focus (first | ((repeat (first | with_reducible exact Tk.here | with_reducible apply Tk.there)); done) | ((repeat (first | exact Tk.here | apply Tk.there)); done))) | apply Sb.drop)) h)
theorem ex_bo_lt {w0 : World} {A : List HProp} {a b : Int} (ha : I64 a) (hb : I64 b) : Fun Tryd.prog w0 47 [.int .i64 a, .int .i64 b] A (Ret w0 (fun _ : Unit => True) (fun _ => .int .i64 (twoI .lt_ a b)) (fun _ => A)) := by
  unfold twoI
  dsimp only
  refine Fun.enter Tryd.func47 rfl Tryd.ntmps47 rfl ?_
  refine WC.seq <| WC.region <| sv (vaI rfl) <| WL.nil <| WX.thenN <| WC.seq <| WC.region <| sv (vmI rfl) <| sv (vmI rfl) <| sv (vlt rfl rfl) <| clx (by repeat' (first | with_reducible exact Sb.all | exact Sb.nil | (apply Sb.cons; focus (first | ((repeat (first | with_reducible exact Tk.here | with_reducible apply Tk.there)); done) | ((repeat (first | exact Tk.here | apply Tk.there)); done))) | apply Sb.drop)) (ex_truth) ct40 rfl fun r1 hr1 => ?_
  exact sv (vaI rfl) <| WL.nil <| WX.thenN <| WC.ret <| WX.ret1 rfl (()) (trivial) (tr_bit Iff.rfl) (fun _ h => Sb.own (by repeat' (first | with_reducible exact Sb.all | exact Sb.nil | (apply Sb.cons; focus (first | ((repeat (first | with_reducible exact Tk.here | with_reducible apply Tk.there)); done) | ((repeat (first | exact Tk.here | apply Tk.there)); done))) | apply Sb.drop)) h)
theorem ex_bo_gt {w0 : World} {A : List HProp} {a b : Int} (ha : I64 a) (hb : I64 b) : Fun Tryd.prog w0 48 [.int .i64 a, .int .i64 b] A (Ret w0 (fun _ : Unit => True) (fun _ => .int .i64 (twoI .gt_ a b)) (fun _ => A)) := by
  unfold twoI
  dsimp only
  refine Fun.enter Tryd.func48 rfl Tryd.ntmps48 rfl ?_
  refine WC.seq <| WC.region <| sv (vaI rfl) <| WL.nil <| WX.thenN <| WC.seq <| WC.region <| sv (vmI rfl) <| sv (vmI rfl) <| sv (vgt rfl rfl) <| clx (by repeat' (first | with_reducible exact Sb.all | exact Sb.nil | (apply Sb.cons; focus (first | ((repeat (first | with_reducible exact Tk.here | with_reducible apply Tk.there)); done) | ((repeat (first | exact Tk.here | apply Tk.there)); done))) | apply Sb.drop)) (ex_truth) ct40 rfl fun r1 hr1 => ?_
  exact sv (vaI rfl) <| WL.nil <| WX.thenN <| WC.ret <| WX.ret1 rfl (()) (trivial) (tr_bit Iff.rfl) (fun _ h => Sb.own (by repeat' (first | with_reducible exact Sb.all | exact Sb.nil | (apply Sb.cons; focus (first | ((repeat (first | with_reducible exact Tk.here | with_reducible apply Tk.there)); done) | ((repeat (first | exact Tk.here | apply Tk.there)); done))) | apply Sb.drop)) h)
theorem ex_bo_add {w0 : World} {A : List HProp} {a b : Int} (ha : I64 a) (hb : I64 b) : Fun Tryd.prog w0 49 [.int .i64 a, .int .i64 b] A (Ret w0 (fun _ : Unit => True) (fun _ => .int .i64 (twoI .add_ a b)) (fun _ => A)) := by
  unfold twoI
  dsimp only
  refine Fun.enter Tryd.func49 rfl Tryd.ntmps49 rfl ?_
  exact WC.seq <| WC.region <| sv (vaI rfl) <| WL.nil <| WX.thenN <| WC.seq <| WC.region <| sv (vmI rfl) <| sv (vmI rfl) <| sv (vaddr rfl rfl) <| sv (vaI rfl) <| WL.nil <| WX.thenN <| WC.ret <| WX.ret1 rfl (()) (trivial) rfl (fun _ h => Sb.own (by repeat' (first | with_reducible exact Sb.all | exact Sb.nil | (apply Sb.cons; focus (first | ((repeat (first | with_reducible exact Tk.here | with_reducible apply Tk.there)); done) | ((repeat (first | exact Tk.here | apply Tk.there)); done))) | apply Sb.drop)) h)
theorem ex_bo_sub {w0 : World} {A : List HProp} {a b : Int} (ha : I64 a) (hb : I64 b) : Fun Tryd.prog w0 50 [.int .i64 a, .int .i64 b] A (Ret w0 (fun _ : Unit => True) (fun _ => .int .i64 (twoI .sub_ a b)) (fun _ => A)) := by
  unfold twoI
  dsimp only
  refine Fun.enter Tryd.func50 rfl Tryd.ntmps50 rfl ?_
  exact WC.seq <| WC.region <| sv (vaI rfl) <| WL.nil <| WX.thenN <| WC.seq <| WC.region <| sv (vmI rfl) <| sv (vmI rfl) <| sv (vsubr rfl rfl) <| sv (vaI rfl) <| WL.nil <| WX.thenN <| WC.ret <| WX.ret1 rfl (()) (trivial) rfl (fun _ h => Sb.own (by repeat' (first | with_reducible exact Sb.all | exact Sb.nil | (apply Sb.cons; focus (first | ((repeat (first | with_reducible exact Tk.here | with_reducible apply Tk.there)); done) | ((repeat (first | exact Tk.here | apply Tk.there)); done))) | apply Sb.drop)) h)
theorem ex_bo_mul {w0 : World} {A : List HProp} {a b : Int} (ha : I64 a) (hb : I64 b) : Fun Tryd.prog w0 51 [.int .i64 a, .int .i64 b] A (Ret w0 (fun _ : Unit => True) (fun _ => .int .i64 (twoI .mul_ a b)) (fun _ => A)) := by
  unfold twoI
  dsimp only
  refine Fun.enter Tryd.func51 rfl Tryd.ntmps51 rfl ?_
  exact WC.seq <| WC.region <| sv (vaI rfl) <| WL.nil <| WX.thenN <| WC.seq <| WC.region <| sv (vmI rfl) <| sv (vmI rfl) <| sv (vmulr rfl rfl) <| sv (vaI rfl) <| WL.nil <| WX.thenN <| WC.ret <| WX.ret1 rfl (()) (trivial) rfl (fun _ h => Sb.own (by repeat' (first | with_reducible exact Sb.all | exact Sb.nil | (apply Sb.cons; focus (first | ((repeat (first | with_reducible exact Tk.here | with_reducible apply Tk.there)); done) | ((repeat (first | exact Tk.here | apply Tk.there)); done))) | apply Sb.drop)) h)
theorem ex_bo_div {w0 : World} {A : List HProp} {a b : Int} (ha : I64 a) (hb : I64 b) : Fun Tryd.prog w0 52 [.int .i64 a, .int .i64 b] A (Ret w0 (fun _ : Unit => True) (fun _ => .int .i64 (twoI .div_ a b)) (fun _ => A)) := by
  unfold twoI
  dsimp only
  refine Fun.enter Tryd.func52 rfl Tryd.ntmps52 rfl ?_
  refine WC.seq <| WC.region <| sv (vaI rfl) <| WL.nil <| WX.thenN <| WC.seq <| WC.seq <| WC.region <| sv (vmI rfl) <| sv (veq rfl rfl) <| WL.nil <| WX.thenN <| ?_
  refine WC.ite rfl (fun h1 => ?_) (fun h1 => ?_)
  · -- then
    exact WC.seq <| WC.region <| sv (vaI rfl) <| WL.nil <| WX.thenN <| WC.ret <| WX.thenR <| WX.ret1 rfl (()) (trivial) (iv (by rw [if_pos h1])) (fun _ h => Sb.own (by repeat' (first | with_reducible exact Sb.all | exact Sb.nil | (apply Sb.cons; focus (first | ((repeat (first | with_reducible exact Tk.here | with_reducible apply Tk.there)); done) | ((repeat (first | exact Tk.here | apply Tk.there)); done))) | apply Sb.drop)) h)
  · -- else
    exact WC.skip <| WX.thenN <| WC.seq <| WC.region <| sv (vmI rfl) <| sv (vmI rfl) <| sv (vquo rfl rfl h1) <| sv (vaI rfl) <| WL.nil <| WX.thenN <| WC.ret <| WX.ret1 rfl (()) (trivial) (iv (by rw [if_neg h1])) (fun _ h => Sb.own (by repeat' (first | with_reducible exact Sb.all | exact Sb.nil | (apply Sb.cons; focus (first | ((repeat (first | with_reducible exact Tk.here | with_reducible apply Tk.there)); done) | ((repeat (first | exact Tk.here | apply Tk.there)); done))) | apply Sb.drop)) h)
theorem ex_bo_rem {w0 : World} {A : List HProp} {a b : Int} (ha : I64 a) (hb : I64 b) : Fun Tryd.prog w0 53 [.int .i64 a, .int .i64 b] A (Ret w0 (fun _ : Unit => True) (fun _ => .int .i64 (twoI .rem_ a b)) (fun _ => A)) := by
  unfold twoI
  dsimp only
  refine Fun.enter Tryd.func53 rfl Tryd.ntmps53 rfl ?_
  refine WC.seq <| WC.region <| sv (vaI rfl) <| WL.nil <| WX.thenN <| WC.seq <| WC.seq <| WC.region <| sv (vmI rfl) <| sv (veq rfl rfl) <| WL.nil <| WX.thenN <| ?_
  refine WC.ite rfl (fun h1 => ?_) (fun h1 => ?_)
  · -- then
    exact WC.seq <| WC.region <| sv (vaI rfl) <| WL.nil <| WX.thenN <| WC.ret <| WX.thenR <| WX.ret1 rfl (()) (trivial) (iv (by rw [if_pos h1])) (fun _ h => Sb.own (by repeat' (first | with_reducible exact Sb.all | exact Sb.nil | (apply Sb.cons; focus (first | ((repeat (first | with_reducible exact Tk.here | with_reducible apply Tk.there)); done) | ((repeat (first | exact Tk.here | apply Tk.there)); done))) | apply Sb.drop)) h)
  · -- else
    exact WC.skip <| WX.thenN <| WC.seq <| WC.region <| sv (vmI rfl) <| sv (vmI rfl) <| sv (vrem rfl rfl h1) <| sv (vaI rfl) <| WL.nil <| WX.thenN <| WC.ret <| WX.ret1 rfl (()) (trivial) (iv (by rw [if_neg h1])) (fun _ h => Sb.own (by repeat' (first | with_reducible exact Sb.all | exact Sb.nil | (apply Sb.cons; focus (first | ((repeat (first | with_reducible exact Tk.here | with_reducible apply Tk.there)); done) | ((repeat (first | exact Tk.here | apply Tk.there)); done))) | apply Sb.drop)) h)
theorem ex_bo {w0 : World} {A : List HProp} (o : Bo) {a b : Int} (ha : I64 a) (hb : I64 b) : Fun Tryd.prog w0 (boF o) [.int .i64 a, .int .i64 b] A (Ret w0 (fun _ : Unit => True) (fun _ => .int .i64 (twoI o a b)) (fun _ => A)) := by
  cases o
  · exact ex_bo_or ha hb
  · exact ex_bo_and ha hb
  · exact ex_bo_eq ha hb
  · exact ex_bo_ne ha hb
  · exact ex_bo_le ha hb
  · exact ex_bo_ge ha hb
  · exact ex_bo_lt ha hb
  · exact ex_bo_gt ha hb
  · exact ex_bo_add ha hb
  · exact ex_bo_sub ha hb
  · exact ex_bo_mul ha hb
  · exact ex_bo_div ha hb
  · exact ex_bo_rem ha hb
theorem boF_call (o : Bo) : callT Tryd.prog (boF o) = true := by
  cases o
  · exact ct41
  · exact ct42
  · exact ct43
  · exact ct44
  · exact ct45
  · exact ct46
  · exact ct47
  · exact ct48
  · exact ct49
  · exact ct50
  · exact ct51
  · exact ct52
  · exact ct53
end Go.Proofs.YtoeglkkmjmhmiaaDoor
