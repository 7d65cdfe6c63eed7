/-
  Layer 4: the document's operator of two values; the law about ranks, in plain words.
-/
import Derived.Test.YtoeglkkmjmhmiaaDoorExprLawA
set_option linter.unusedVariables false
set_option linter.unusedSimpArgs false
set_option maxRecDepth 4000
namespace Go.Proofs.YtoeglkkmjmhmiaaDoor
open Go.Sl Go.RowKit Go.Expr Go.Shelf

theorem ref_bit {w0 : World} {A : List HProp} {b : Bool} : Fun Tryd.prog w0 28 [.bool b] A (Ret w0 (fun _ : Unit => True) (fun _ => .int .i64 (if b = true then 1 else 0)) (fun _ => A)) := by
  refine Fun.enter Tryd.func28 rfl Tryd.ntmps28 rfl ?_
  refine WC.seq <| WC.region <| sv (vaI rfl) <| WL.nil <| WX.thenN <| WC.seq <| WC.seq <| WC.region <| sv (vmB rfl) <| WL.nil <| WX.thenN <| ?_
  refine WC.iteb rfl (fun h1 => ?_) (fun h1 => ?_)
  · -- then
    exact WC.seq <| WC.region <| sv (vaI rfl) <| WL.nil <| WX.thenN <| WC.ret <| WX.thenR <| WX.ret1 rfl (()) (trivial) (iv (by rw [if_pos h1])) (fun _ h => Sb.own (by repeat' (first | with_reducible exact Sb.all | exact Sb.nil | (apply Sb.cons; focus (first | ((repeat (first | with_reducible exact Tk.here | with_reducible apply Tk.there)); done) | ((repeat (first | exact Tk.here | apply Tk.there)); done))) | apply Sb.drop)) h)
  · -- else
    exact WC.skip <| WX.thenN <| WC.seq <| WC.region <| sv (vaI rfl) <| WL.nil <| WX.thenN <| WC.ret <| WX.ret1 rfl (()) (trivial) (iv (by rw [if_neg (by rw [h1]; decide)])) (fun _ h => Sb.own (by repeat' (first | with_reducible exact Sb.all | exact Sb.nil | (apply Sb.cons; focus (first | ((repeat (first | with_reducible exact Tk.here | with_reducible apply Tk.there)); done) | ((repeat (first | exact Tk.here | apply Tk.there)); done))) | apply Sb.drop)) h)
theorem o_of {o p : Bo} {l : List UInt8} (hl : p.bytes = l) (h : bs o.bytes = ByteArray.mk l.toArray) : o = p := by
  have h2 : o.bytes = l := bs_inj.1 h
  rw [← hl] at h2
  cases o <;> cases p <;> first | rfl | exact absurd h2 (by decide)
theorem o_last {o : Bo} (h1 : ¬ bs o.bytes = ByteArray.mk #[124, 124]) (h2 : ¬ bs o.bytes = ByteArray.mk #[38, 38]) (h3 : ¬ bs o.bytes = ByteArray.mk #[61, 61]) (h4 : ¬ bs o.bytes = ByteArray.mk #[33, 61]) (h5 : ¬ bs o.bytes = ByteArray.mk #[60, 61]) (h6 : ¬ bs o.bytes = ByteArray.mk #[62, 61]) (h7 : ¬ bs o.bytes = ByteArray.mk #[60]) (h8 : ¬ bs o.bytes = ByteArray.mk #[62]) (h9 : ¬ bs o.bytes = ByteArray.mk #[43]) (h10 : ¬ bs o.bytes = ByteArray.mk #[45]) (h11 : ¬ bs o.bytes = ByteArray.mk #[42]) : o = .div_ ∨ o = .rem_ := by
  cases o
  · exact absurd rfl h1
  · exact absurd rfl h2
  · exact absurd rfl h3
  · exact absurd rfl h4
  · exact absurd rfl h5
  · exact absurd rfl h6
  · exact absurd rfl h7
  · exact absurd rfl h8
  · exact absurd rfl h9
  · exact absurd rfl h10
  · exact absurd rfl h11
  · exact .inl rfl
  · exact .inr rfl
theorem bT' {v w : Value} {p : Prop} [Decidable p] (h : p) (e : v = w) : v = w := e
theorem ref_two {w0 : World} {A : List HProp} {o : Bo} {a b : Int} : Fun Tryd.prog w0 19 [.string (bs o.bytes), .int .i64 a, .int .i64 b] A (Ret w0 (fun _ : Unit => True) (fun _ => .int .i64 (twoI o a b)) (fun _ => A)) := by
  refine Fun.enter Tryd.func19 rfl Tryd.ntmps19 rfl ?_
  refine WC.seq <| WC.region <| sv (vaI rfl) <| WL.nil <| WX.thenN <| WC.seq <| WC.seq <| WC.region <| sv (vmT rfl) <| WL.nil <| WX.thenN <| WC.block <| WC.seq <| WC.region <| sv (veqs rfl rfl) <| sv (vaB rfl) <| WL.nil <| WX.thenN <| ?_
  refine WC.ite rfl (fun h1 => ?_) (fun h1 => ?_)
  · -- then
    obtain rfl := o_of (p := .or_) rfl h1
    refine WC.cutS [(6, .int .i64 (twoI .or_ a b))] [] trivial ?_ fun ρh => ?_
    · -- ref.go:231
      refine WC.region <| sv (vmI rfl) <| svs (vne rfl rfl) (fun q1 => ?_) (fun q1 => ?_)
      ·
        refine sv (vmB rfl) <| sng rfl <| sng rfl <| sv (vpkt rfl) <| clx (by repeat' (first | with_reducible exact Sb.all | exact Sb.nil | (apply Sb.cons; focus (first | ((repeat (first | with_reducible exact Tk.here | with_reducible apply Tk.there)); done) | ((repeat (first | exact Tk.here | apply Tk.there)); done))) | apply Sb.drop)) (ref_bit) ct28 rfl fun r1 hr1 => ?_
        exact sv (vaI rfl) <| WL.nil <| WX.mid () trivial ⟨(tr_T (q := a ≠ 0 ∨ b ≠ 0) (.inl q1)), trivial⟩ trivial (fun _ h => Sb.own (by repeat' (first | with_reducible exact Sb.all | exact Sb.nil | (apply Sb.cons; focus (first | ((repeat (first | with_reducible exact Tk.here | with_reducible apply Tk.there)); done) | ((repeat (first | exact Tk.here | apply Tk.there)); done))) | apply Sb.drop)) h)
      ·
        refine sv (vmB rfl) <| svg rfl (vmI rfl) <| svg rfl (vne rfl rfl) <| sv (vpkf rfl) <| clx (by repeat' (first | with_reducible exact Sb.all | exact Sb.nil | (apply Sb.cons; focus (first | ((repeat (first | with_reducible exact Tk.here | with_reducible apply Tk.there)); done) | ((repeat (first | exact Tk.here | apply Tk.there)); done))) | apply Sb.drop)) (ref_bit) ct28 rfl fun r1 hr1 => ?_
        exact sv (vaI rfl) <| WL.nil <| WX.mid () trivial ⟨tr_bit (p := b ≠ 0) (q := a ≠ 0 ∨ b ≠ 0) (by omega), trivial⟩ trivial (fun _ h => Sb.own (by repeat' (first | with_reducible exact Sb.all | exact Sb.nil | (apply Sb.cons; focus (first | ((repeat (first | with_reducible exact Tk.here | with_reducible apply Tk.there)); done) | ((repeat (first | exact Tk.here | apply Tk.there)); done))) | apply Sb.drop)) h)
    exact WC.ret <| WX.blockR <| WX.thenR <| WX.ret1 rfl (()) (trivial) rfl (fun _ h => Sb.own (by repeat' (first | with_reducible exact Sb.all | exact Sb.nil | (apply Sb.cons; focus (first | ((repeat (first | with_reducible exact Tk.here | with_reducible apply Tk.there)); done) | ((repeat (first | exact Tk.here | apply Tk.there)); done))) | apply Sb.drop)) h)
  · -- else
    refine WC.seq <| WC.region <| sv (veqs rfl rfl) <| sv (vaB rfl) <| WL.nil <| WX.thenN <| ?_
    refine WC.ite rfl (fun h2 => ?_) (fun h2 => ?_)
    · -- then
      obtain rfl := o_of (p := .and_) rfl h2
      refine WC.cutS [(6, .int .i64 (twoI .and_ a b))] [] trivial ?_ fun ρh => ?_
      · -- ref.go:233
        refine WC.region <| sv (vmI rfl) <| svs (vne rfl rfl) (fun q2 => ?_) (fun q2 => ?_)
        ·
          refine sv (vmB rfl) <| svg rfl (vmI rfl) <| svg rfl (vne rfl rfl) <| sv (vpkt rfl) <| clx (by repeat' (first | with_reducible exact Sb.all | exact Sb.nil | (apply Sb.cons; focus (first | ((repeat (first | with_reducible exact Tk.here | with_reducible apply Tk.there)); done) | ((repeat (first | exact Tk.here | apply Tk.there)); done))) | apply Sb.drop)) (ref_bit) ct28 rfl fun r2 hr2 => ?_
          exact sv (vaI rfl) <| WL.nil <| WX.mid () trivial ⟨tr_bit (p := b ≠ 0) (q := a ≠ 0 ∧ b ≠ 0) (by omega), trivial⟩ trivial (fun _ h => Sb.own (by repeat' (first | with_reducible exact Sb.all | exact Sb.nil | (apply Sb.cons; focus (first | ((repeat (first | with_reducible exact Tk.here | with_reducible apply Tk.there)); done) | ((repeat (first | exact Tk.here | apply Tk.there)); done))) | apply Sb.drop)) h)
        ·
          refine sv (vmB rfl) <| sng rfl <| sng rfl <| sv (vpkf rfl) <| clx (by repeat' (first | with_reducible exact Sb.all | exact Sb.nil | (apply Sb.cons; focus (first | ((repeat (first | with_reducible exact Tk.here | with_reducible apply Tk.there)); done) | ((repeat (first | exact Tk.here | apply Tk.there)); done))) | apply Sb.drop)) (ref_bit) ct28 rfl fun r2 hr2 => ?_
          exact sv (vaI rfl) <| WL.nil <| WX.mid () trivial ⟨tr_F (q := a ≠ 0 ∧ b ≠ 0) (by omega), trivial⟩ trivial (fun _ h => Sb.own (by repeat' (first | with_reducible exact Sb.all | exact Sb.nil | (apply Sb.cons; focus (first | ((repeat (first | with_reducible exact Tk.here | with_reducible apply Tk.there)); done) | ((repeat (first | exact Tk.here | apply Tk.there)); done))) | apply Sb.drop)) h)
      exact WC.ret <| WX.blockR <| WX.thenR <| WX.ret1 rfl (()) (trivial) rfl (fun _ h => Sb.own (by repeat' (first | with_reducible exact Sb.all | exact Sb.nil | (apply Sb.cons; focus (first | ((repeat (first | with_reducible exact Tk.here | with_reducible apply Tk.there)); done) | ((repeat (first | exact Tk.here | apply Tk.there)); done))) | apply Sb.drop)) h)
    · -- else
      refine WC.seq <| WC.region <| sv (veqs rfl rfl) <| sv (vaB rfl) <| WL.nil <| WX.thenN <| ?_
      refine WC.ite rfl (fun h3 => ?_) (fun h3 => ?_)
      · -- then
        obtain rfl := o_of (p := .eq_) rfl h3
        refine WC.seq <| WC.region <| sv (vmI rfl) <| sv (vmI rfl) <| sv (veq rfl rfl) <| clx (by repeat' (first | with_reducible exact Sb.all | exact Sb.nil | (apply Sb.cons; focus (first | ((repeat (first | with_reducible exact Tk.here | with_reducible apply Tk.there)); done) | ((repeat (first | exact Tk.here | apply Tk.there)); done))) | apply Sb.drop)) (ref_bit) ct28 rfl fun r3 hr3 => ?_
        exact sv (vaI rfl) <| WL.nil <| WX.thenN <| WC.ret <| WX.blockR <| WX.thenR <| WX.ret1 rfl (()) (trivial) (tr_bit (q := a = b) Iff.rfl) (fun _ h => Sb.own (by repeat' (first | with_reducible exact Sb.all | exact Sb.nil | (apply Sb.cons; focus (first | ((repeat (first | with_reducible exact Tk.here | with_reducible apply Tk.there)); done) | ((repeat (first | exact Tk.here | apply Tk.there)); done))) | apply Sb.drop)) h)
      · -- else
        refine WC.seq <| WC.region <| sv (veqs rfl rfl) <| sv (vaB rfl) <| WL.nil <| WX.thenN <| ?_
        refine WC.ite rfl (fun h4 => ?_) (fun h4 => ?_)
        · -- then
          obtain rfl := o_of (p := .ne_) rfl h4
          refine WC.seq <| WC.region <| sv (vmI rfl) <| sv (vmI rfl) <| sv (vne rfl rfl) <| clx (by repeat' (first | with_reducible exact Sb.all | exact Sb.nil | (apply Sb.cons; focus (first | ((repeat (first | with_reducible exact Tk.here | with_reducible apply Tk.there)); done) | ((repeat (first | exact Tk.here | apply Tk.there)); done))) | apply Sb.drop)) (ref_bit) ct28 rfl fun r4 hr4 => ?_
          exact sv (vaI rfl) <| WL.nil <| WX.thenN <| WC.ret <| WX.blockR <| WX.thenR <| WX.ret1 rfl (()) (trivial) (tr_bit (q := a ≠ b) Iff.rfl) (fun _ h => Sb.own (by repeat' (first | with_reducible exact Sb.all | exact Sb.nil | (apply Sb.cons; focus (first | ((repeat (first | with_reducible exact Tk.here | with_reducible apply Tk.there)); done) | ((repeat (first | exact Tk.here | apply Tk.there)); done))) | apply Sb.drop)) h)
        · -- else
          refine WC.seq <| WC.region <| sv (veqs rfl rfl) <| sv (vaB rfl) <| WL.nil <| WX.thenN <| ?_
          refine WC.ite rfl (fun h5 => ?_) (fun h5 => ?_)
          · -- then
            obtain rfl := o_of (p := .le_) rfl h5
            refine WC.seq <| WC.region <| sv (vmI rfl) <| sv (vmI rfl) <| sv (vle rfl rfl) <| clx (by repeat' (first | with_reducible exact Sb.all | exact Sb.nil | (apply Sb.cons; focus (first | ((repeat (first | with_reducible exact Tk.here | with_reducible apply Tk.there)); done) | ((repeat (first | exact Tk.here | apply Tk.there)); done))) | apply Sb.drop)) (ref_bit) ct28 rfl fun r5 hr5 => ?_
            exact sv (vaI rfl) <| WL.nil <| WX.thenN <| WC.ret <| WX.blockR <| WX.thenR <| WX.ret1 rfl (()) (trivial) (tr_bit (q := a ≤ b) Iff.rfl) (fun _ h => Sb.own (by repeat' (first | with_reducible exact Sb.all | exact Sb.nil | (apply Sb.cons; focus (first | ((repeat (first | with_reducible exact Tk.here | with_reducible apply Tk.there)); done) | ((repeat (first | exact Tk.here | apply Tk.there)); done))) | apply Sb.drop)) h)
          · -- else
            refine WC.seq <| WC.region <| sv (veqs rfl rfl) <| sv (vaB rfl) <| WL.nil <| WX.thenN <| ?_
            refine WC.ite rfl (fun h6 => ?_) (fun h6 => ?_)
            · -- then
              obtain rfl := o_of (p := .ge_) rfl h6
              refine WC.seq <| WC.region <| sv (vmI rfl) <| sv (vmI rfl) <| sv (vge rfl rfl) <| clx (by repeat' (first | with_reducible exact Sb.all | exact Sb.nil | (apply Sb.cons; focus (first | ((repeat (first | with_reducible exact Tk.here | with_reducible apply Tk.there)); done) | ((repeat (first | exact Tk.here | apply Tk.there)); done))) | apply Sb.drop)) (ref_bit) ct28 rfl fun r6 hr6 => ?_
              exact sv (vaI rfl) <| WL.nil <| WX.thenN <| WC.ret <| WX.blockR <| WX.thenR <| WX.ret1 rfl (()) (trivial) (tr_bit (q := b ≤ a) Iff.rfl) (fun _ h => Sb.own (by repeat' (first | with_reducible exact Sb.all | exact Sb.nil | (apply Sb.cons; focus (first | ((repeat (first | with_reducible exact Tk.here | with_reducible apply Tk.there)); done) | ((repeat (first | exact Tk.here | apply Tk.there)); done))) | apply Sb.drop)) h)
            · -- else
              refine WC.seq <| WC.region <| sv (veqs rfl rfl) <| sv (vaB rfl) <| WL.nil <| WX.thenN <| ?_
              refine WC.ite rfl (fun h7 => ?_) (fun h7 => ?_)
              · -- then
                obtain rfl := o_of (p := .lt_) rfl h7
                refine WC.seq <| WC.region <| sv (vmI rfl) <| sv (vmI rfl) <| sv (vlt rfl rfl) <| clx (by repeat' (first | with_reducible exact Sb.all | exact Sb.nil | (apply Sb.cons; focus (first | ((repeat (first | with_reducible exact Tk.here | with_reducible apply Tk.there)); done) | ((repeat (first | exact Tk.here | apply Tk.there)); done))) | apply Sb.drop)) (ref_bit) ct28 rfl fun r7 hr7 => ?_
                exact sv (vaI rfl) <| WL.nil <| WX.thenN <| WC.ret <| WX.blockR <| WX.thenR <| WX.ret1 rfl (()) (trivial) (tr_bit (q := a < b) Iff.rfl) (fun _ h => Sb.own (by repeat' (first | with_reducible exact Sb.all | exact Sb.nil | (apply Sb.cons; focus (first | ((repeat (first | with_reducible exact Tk.here | with_reducible apply Tk.there)); done) | ((repeat (first | exact Tk.here | apply Tk.there)); done))) | apply Sb.drop)) h)
              · -- else
                refine WC.seq <| WC.region <| sv (veqs rfl rfl) <| sv (vaB rfl) <| WL.nil <| WX.thenN <| ?_
                refine WC.ite rfl (fun h8 => ?_) (fun h8 => ?_)
                · -- then
                  obtain rfl := o_of (p := .gt_) rfl h8
                  refine WC.seq <| WC.region <| sv (vmI rfl) <| sv (vmI rfl) <| sv (vgt rfl rfl) <| clx (by repeat' (first | with_reducible exact Sb.all | exact Sb.nil | (apply Sb.cons; focus (first | ((repeat (first | with_reducible exact Tk.here | with_reducible apply Tk.there)); done) | ((repeat (first | exact Tk.here | apply Tk.there)); done))) | apply Sb.drop)) (ref_bit) ct28 rfl fun r8 hr8 => ?_
                  exact sv (vaI rfl) <| WL.nil <| WX.thenN <| WC.ret <| WX.blockR <| WX.thenR <| WX.ret1 rfl (()) (trivial) (tr_bit (q := b < a) Iff.rfl) (fun _ h => Sb.own (by repeat' (first | with_reducible exact Sb.all | exact Sb.nil | (apply Sb.cons; focus (first | ((repeat (first | with_reducible exact Tk.here | with_reducible apply Tk.there)); done) | ((repeat (first | exact Tk.here | apply Tk.there)); done))) | apply Sb.drop)) h)
                · -- else
                  refine WC.seq <| WC.region <| sv (veqs rfl rfl) <| sv (vaB rfl) <| WL.nil <| WX.thenN <| ?_
                  refine WC.ite rfl (fun h9 => ?_) (fun h9 => ?_)
                  · -- then
                    obtain rfl := o_of (p := .add_) rfl h9
                    exact WC.seq <| WC.region <| sv (vmI rfl) <| sv (vmI rfl) <| sv (vaddr rfl rfl) <| sv (vaI rfl) <| WL.nil <| WX.thenN <| WC.ret <| WX.blockR <| WX.thenR <| WX.ret1 rfl (()) (trivial) rfl (fun _ h => Sb.own (by repeat' (first | with_reducible exact Sb.all | exact Sb.nil | (apply Sb.cons; focus (first | ((repeat (first | with_reducible exact Tk.here | with_reducible apply Tk.there)); done) | ((repeat (first | exact Tk.here | apply Tk.there)); done))) | apply Sb.drop)) h)
                  · -- else
                    refine WC.seq <| WC.region <| sv (veqs rfl rfl) <| sv (vaB rfl) <| WL.nil <| WX.thenN <| ?_
                    refine WC.ite rfl (fun h10 => ?_) (fun h10 => ?_)
                    · -- then
                      obtain rfl := o_of (p := .sub_) rfl h10
                      exact WC.seq <| WC.region <| sv (vmI rfl) <| sv (vmI rfl) <| sv (vsubr rfl rfl) <| sv (vaI rfl) <| WL.nil <| WX.thenN <| WC.ret <| WX.blockR <| WX.thenR <| WX.ret1 rfl (()) (trivial) rfl (fun _ h => Sb.own (by repeat' (first | with_reducible exact Sb.all | exact Sb.nil | (apply Sb.cons; focus (first | ((repeat (first | with_reducible exact Tk.here | with_reducible apply Tk.there)); done) | ((repeat (first | exact Tk.here | apply Tk.there)); done))) | apply Sb.drop)) h)
                    · -- else
                      refine WC.seq <| WC.region <| sv (veqs rfl rfl) <| sv (vaB rfl) <| WL.nil <| WX.thenN <| ?_
                      refine WC.ite rfl (fun h11 => ?_) (fun h11 => ?_)
                      · -- then
                        obtain rfl := o_of (p := .mul_) rfl h11
                        exact WC.seq <| WC.region <| sv (vmI rfl) <| sv (vmI rfl) <| sv (vmulr rfl rfl) <| sv (vaI rfl) <| WL.nil <| WX.thenN <| WC.ret <| WX.blockR <| WX.thenR <| WX.ret1 rfl (()) (trivial) rfl (fun _ h => Sb.own (by repeat' (first | with_reducible exact Sb.all | exact Sb.nil | (apply Sb.cons; focus (first | ((repeat (first | with_reducible exact Tk.here | with_reducible apply Tk.there)); done) | ((repeat (first | exact Tk.here | apply Tk.there)); done))) | apply Sb.drop)) h)
                      · -- else
                        have hlast := o_last h1 h2 h3 h4 h5 h6 h7 h8 h9 h10 h11
                        refine WC.skip <| WX.blockN <| WX.thenN <| WC.seq <| WC.seq <| WC.region <| sv (vmI rfl) <| sv (veq rfl rfl) <| WL.nil <| WX.thenN <| ?_
                        refine WC.ite rfl (fun h12 => ?_) (fun h12 => ?_)
                        · -- then
                          exact WC.seq <| WC.region <| sv (vaI rfl) <| WL.nil <| WX.thenN <| WC.ret <| WX.thenR <| WX.ret1 rfl (()) (trivial) (show Value.int .i64 0 = _ from by rcases hlast with rfl | rfl <;> exact iv (by show _ = if b = 0 then 0 else _; rw [if_pos h12])) (fun _ h => Sb.own (by repeat' (first | with_reducible exact Sb.all | exact Sb.nil | (apply Sb.cons; focus (first | ((repeat (first | with_reducible exact Tk.here | with_reducible apply Tk.there)); done) | ((repeat (first | exact Tk.here | apply Tk.there)); done))) | apply Sb.drop)) h)
                        · -- else
                          refine WC.skip <| WX.thenN <| WC.seq <| WC.seq <| WC.region <| sv (vmT rfl) <| sv (veqs rfl rfl) <| WL.nil <| WX.thenN <| ?_
                          refine WC.ite rfl (fun h13 => ?_) (fun h13 => ?_)
                          · -- then
                            obtain rfl := o_of (p := .div_) rfl h13
                            exact WC.seq <| WC.region <| sv (vmI rfl) <| sv (vmI rfl) <| sv (vquo rfl rfl h12) <| sv (vaI rfl) <| WL.nil <| WX.thenN <| WC.ret <| WX.thenR <| WX.ret1 rfl (()) (trivial) (iv (by show _ = if b = 0 then 0 else _; rw [if_neg h12])) (fun _ h => Sb.own (by repeat' (first | with_reducible exact Sb.all | exact Sb.nil | (apply Sb.cons; focus (first | ((repeat (first | with_reducible exact Tk.here | with_reducible apply Tk.there)); done) | ((repeat (first | exact Tk.here | apply Tk.there)); done))) | apply Sb.drop)) h)
                          · -- else
                            obtain rfl : o = .rem_ := hlast.resolve_left fun e => h13 (by rw [e]; rfl)
                            exact WC.skip <| WX.thenN <| WC.seq <| WC.region <| sv (vmI rfl) <| sv (vmI rfl) <| sv (vrem rfl rfl h12) <| sv (vaI rfl) <| WL.nil <| WX.thenN <| WC.ret <| WX.ret1 rfl (()) (trivial) (iv (by show _ = if b = 0 then 0 else _; rw [if_neg h12])) (fun _ h => Sb.own (by repeat' (first | with_reducible exact Sb.all | exact Sb.nil | (apply Sb.cons; focus (first | ((repeat (first | with_reducible exact Tk.here | with_reducible apply Tk.there)); done) | ((repeat (first | exact Tk.here | apply Tk.there)); done))) | apply Sb.drop)) h)
end Go.Proofs.YtoeglkkmjmhmiaaDoor
