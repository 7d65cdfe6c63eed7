/-
  Layer 4: the document's words and ranks.
-/
import Derived.Test.YtoeglkkmjmhmiaaDoorExprRefA
import Derived.Test.YtoeglkkmjmhmiaaDoorExprMachB
set_option linter.unusedVariables false
set_option linter.unusedSimpArgs false
set_option maxRecDepth 4000
namespace Go.Proofs.YtoeglkkmjmhmiaaDoor
open Go.Sl Go.RowKit Go.Expr Go.Shelf

theorem ref_digit {w0 : World} {A : List HProp} {c : UInt8} : Fun Tryd.prog w0 23 [u8v c] A (Ret w0 (fun _ : Unit => True) (fun _ => .bool (isDig c)) (fun _ => A)) := by
  refine Fun.enter Tryd.func23 rfl Tryd.ntmps23 rfl ?_
  refine WC.seq <| WC.region <| sv (vaB rfl) <| WL.nil <| WX.thenN <| ?_
  refine WC.cutS [(2, .bool (isDig c))] [] trivial ?_ fun ρh => ?_
  · -- ref.go:21
    refine WC.region <| sv (vmI rfl) <| svs (vge rfl rfl) (fun q1 => ?_) (fun q1 => ?_)
    ·
      exact sv (vmB rfl) <| svg rfl (vmI rfl) <| svg rfl (vle rfl rfl) <| sv (vpkt rfl) <| sv (vaB rfl) <| WL.nil <| WX.mid () trivial ⟨by unfold isDig; exact bI (by omega), trivial⟩ trivial (fun _ h => Sb.own (by repeat' (first | with_reducible exact Sb.all | exact Sb.nil | (apply Sb.cons; focus (first | ((repeat (first | with_reducible exact Tk.here | with_reducible apply Tk.there)); done) | ((repeat (first | exact Tk.here | apply Tk.there)); done))) | apply Sb.drop)) h)
    ·
      exact sv (vmB rfl) <| sng rfl <| sng rfl <| sv (vpkf rfl) <| sv (vaB rfl) <| WL.nil <| WX.mid () trivial ⟨by unfold isDig; exact bF (by omega), trivial⟩ trivial (fun _ h => Sb.own (by repeat' (first | with_reducible exact Sb.all | exact Sb.nil | (apply Sb.cons; focus (first | ((repeat (first | with_reducible exact Tk.here | with_reducible apply Tk.there)); done) | ((repeat (first | exact Tk.here | apply Tk.there)); done))) | apply Sb.drop)) h)
  exact WC.ret <| WX.ret1 rfl (()) (trivial) rfl (fun _ h => Sb.own (by repeat' (first | with_reducible exact Sb.all | exact Sb.nil | (apply Sb.cons; focus (first | ((repeat (first | with_reducible exact Tk.here | with_reducible apply Tk.there)); done) | ((repeat (first | exact Tk.here | apply Tk.there)); done))) | apply Sb.drop)) h)
theorem ref_letter {w0 : World} {A : List HProp} {c : UInt8} : Fun Tryd.prog w0 34 [u8v c] A (Ret w0 (fun _ : Unit => True) (fun _ => .bool (isLet c)) (fun _ => A)) := by
  refine Fun.enter Tryd.func34 rfl Tryd.ntmps34 rfl ?_
  refine WC.seq <| WC.region <| sv (vaB rfl) <| WL.nil <| WX.thenN <| ?_
  refine WC.cutS [(2, .bool (isLet c))] [] trivial ?_ fun ρh => ?_
  · -- ref.go:23
    refine WC.region <| sv (vmI rfl) <| svs (vge rfl rfl) (fun q1 => ?_) (fun q1 => ?_)
    ·
      refine sv (vmB rfl) <| svg rfl (vmI rfl) <| svsg rfl (vle rfl rfl) (fun q2 => ?_) (fun q2 => ?_)
      ·
        exact sv (vpkt rfl) <| sv (vmB rfl) <| sng rfl <| sng rfl <| sng rfl <| sng rfl <| sng rfl <| sng rfl <| sv (vpkt rfl) <| sv (vaB rfl) <| WL.nil <| WX.mid () trivial ⟨by unfold isLet; exact bT (by omega), trivial⟩ trivial (fun _ h => Sb.own (by repeat' (first | with_reducible exact Sb.all | exact Sb.nil | (apply Sb.cons; focus (first | ((repeat (first | with_reducible exact Tk.here | with_reducible apply Tk.there)); done) | ((repeat (first | exact Tk.here | apply Tk.there)); done))) | apply Sb.drop)) h)
      ·
        refine sv (vpkt rfl) <| sv (vmB rfl) <| svg rfl (vmI rfl) <| svsg rfl (vge rfl rfl) (fun q3 => ?_) (fun q3 => ?_)
        ·
          exact svg rfl (vmB rfl) <| svg rfl (vmI rfl) <| svg rfl (vle rfl rfl) <| svg rfl (vpkt rfl) <| sv (vpkf rfl) <| sv (vaB rfl) <| WL.nil <| WX.mid () trivial ⟨by unfold isLet; exact bI (by omega), trivial⟩ trivial (fun _ h => Sb.own (by repeat' (first | with_reducible exact Sb.all | exact Sb.nil | (apply Sb.cons; focus (first | ((repeat (first | with_reducible exact Tk.here | with_reducible apply Tk.there)); done) | ((repeat (first | exact Tk.here | apply Tk.there)); done))) | apply Sb.drop)) h)
        ·
          exact svg rfl (vmB rfl) <| sng rfl <| sng rfl <| svg rfl (vpkf rfl) <| sv (vpkf rfl) <| sv (vaB rfl) <| WL.nil <| WX.mid () trivial ⟨by unfold isLet; exact bF (by omega), trivial⟩ trivial (fun _ h => Sb.own (by repeat' (first | with_reducible exact Sb.all | exact Sb.nil | (apply Sb.cons; focus (first | ((repeat (first | with_reducible exact Tk.here | with_reducible apply Tk.there)); done) | ((repeat (first | exact Tk.here | apply Tk.there)); done))) | apply Sb.drop)) h)
    ·
      refine sv (vmB rfl) <| sng rfl <| sng rfl <| sv (vpkf rfl) <| sv (vmB rfl) <| svg rfl (vmI rfl) <| svsg rfl (vge rfl rfl) (fun q4 => ?_) (fun q4 => ?_)
      ·
        exact svg rfl (vmB rfl) <| svg rfl (vmI rfl) <| svg rfl (vle rfl rfl) <| svg rfl (vpkt rfl) <| sv (vpkf rfl) <| sv (vaB rfl) <| WL.nil <| WX.mid () trivial ⟨by unfold isLet; exact bI (by omega), trivial⟩ trivial (fun _ h => Sb.own (by repeat' (first | with_reducible exact Sb.all | exact Sb.nil | (apply Sb.cons; focus (first | ((repeat (first | with_reducible exact Tk.here | with_reducible apply Tk.there)); done) | ((repeat (first | exact Tk.here | apply Tk.there)); done))) | apply Sb.drop)) h)
      ·
        exact svg rfl (vmB rfl) <| sng rfl <| sng rfl <| svg rfl (vpkf rfl) <| sv (vpkf rfl) <| sv (vaB rfl) <| WL.nil <| WX.mid () trivial ⟨by unfold isLet; exact bF (by omega), trivial⟩ trivial (fun _ h => Sb.own (by repeat' (first | with_reducible exact Sb.all | exact Sb.nil | (apply Sb.cons; focus (first | ((repeat (first | with_reducible exact Tk.here | with_reducible apply Tk.there)); done) | ((repeat (first | exact Tk.here | apply Tk.there)); done))) | apply Sb.drop)) h)
  exact WC.ret <| WX.ret1 rfl (()) (trivial) rfl (fun _ h => Sb.own (by repeat' (first | with_reducible exact Sb.all | exact Sb.nil | (apply Sb.cons; focus (first | ((repeat (first | with_reducible exact Tk.here | with_reducible apply Tk.there)); done) | ((repeat (first | exact Tk.here | apply Tk.there)); done))) | apply Sb.drop)) h)
def rankS (w : List UInt8) : Nat :=
  if w = [124, 124] then 1 else if w = [38, 38] then 2
  else if w = [61, 61] ∨ w = [33, 61] ∨ w = [60, 61] ∨ w = [62, 61] ∨ w = [60] ∨ w = [62] then 3
  else if w = [43] ∨ w = [45] then 4 else if w = [42] ∨ w = [47] ∨ w = [37] then 5 else if w = [126] ∨ w = [33] then 6 else 0
theorem bse {w l : List UInt8} : bs w = ByteArray.mk l.toArray ↔ w = l := bs_inj (a := w) (b := l)
theorem ref_rank {w0 : World} {A : List HProp} {w : List UInt8} : Fun Tryd.prog w0 24 [.string (bs w)] A (Ret w0 (fun _ : Unit => True) (fun _ => .int .i64 (rankS w : Nat)) (fun _ => A)) := by
  refine Fun.enter Tryd.func24 rfl Tryd.ntmps24 rfl ?_
  refine WC.seq <| WC.region <| sv (vaI rfl) <| WL.nil <| WX.thenN <| WC.seq <| WC.seq <| WC.region <| sv (vmT rfl) <| WL.nil <| WX.thenN <| WC.block <| WC.seq <| WC.region <| sv (veqs rfl rfl) <| sv (vaB rfl) <| WL.nil <| WX.thenN <| ?_
  refine WC.ite rfl (fun h1 => ?_) (fun h1 => ?_)
  · -- then
    exact WC.seq <| WC.region <| sv (vaI rfl) <| WL.nil <| WX.thenN <| WC.ret <| WX.blockR <| WX.thenR <| WX.ret1 rfl (()) (trivial) (iv (by unfold rankS; rw [if_pos (bse.1 h1)]; rfl)) (fun _ h => Sb.own (by repeat' (first | with_reducible exact Sb.all | exact Sb.nil | (apply Sb.cons; focus (first | ((repeat (first | with_reducible exact Tk.here | with_reducible apply Tk.there)); done) | ((repeat (first | exact Tk.here | apply Tk.there)); done))) | apply Sb.drop)) h)
  · -- else
    refine WC.seq <| WC.region <| sv (veqs rfl rfl) <| sv (vaB rfl) <| WL.nil <| WX.thenN <| ?_
    refine WC.ite rfl (fun h2 => ?_) (fun h2 => ?_)
    · -- then
      exact WC.seq <| WC.region <| sv (vaI rfl) <| WL.nil <| WX.thenN <| WC.ret <| WX.blockR <| WX.thenR <| WX.ret1 rfl (()) (trivial) (iv (by unfold rankS; rw [if_neg (fun e => h1 (bse.2 e)), if_pos (bse.1 h2)]; rfl)) (fun _ h => Sb.own (by repeat' (first | with_reducible exact Sb.all | exact Sb.nil | (apply Sb.cons; focus (first | ((repeat (first | with_reducible exact Tk.here | with_reducible apply Tk.there)); done) | ((repeat (first | exact Tk.here | apply Tk.there)); done))) | apply Sb.drop)) h)
    · -- else
      refine WC.cutvS (ι := Unit) (fun i => [(8, .bool (decide (w = [61, 61] ∨ w = [33, 61] ∨ w = [60, 61] ∨ w = [62, 61] ∨ w = [60] ∨ w = [62])))]) [(3, .string _)] (fun i => True) ⟨rfl, trivial⟩ ?_ ?_
      · -- up to the join
        refine WC.seq <| WC.region <| sv (veqs rfl rfl) <| sv (vaB rfl) <| WL.nil <| WX.thenN <| ?_
        refine WC.ite rfl (fun h3 => ?_) (fun h3 => ?_)
        · -- then
          exact WC.skip <| WX.mid (()) (trivial) ⟨bI (by rw [bse] at h3; try rw [bse]; simp [h3]), trivial⟩ ⟨rfl, trivial⟩ (fun _ h => Sb.own (by repeat' (first | with_reducible exact Sb.all | exact Sb.nil | (apply Sb.cons; focus (first | ((repeat (first | with_reducible exact Tk.here | with_reducible apply Tk.there)); done) | ((repeat (first | exact Tk.here | apply Tk.there)); done))) | apply Sb.drop)) h)
        · -- else
          refine WC.seq <| WC.region <| sv (veqs rfl rfl) <| sv (vaB rfl) <| WL.nil <| WX.thenN <| ?_
          refine WC.ite rfl (fun h4 => ?_) (fun h4 => ?_)
          · -- then
            exact WC.skip <| WX.mid (()) (trivial) ⟨bI (by rw [bse] at h3 h4; try rw [bse]; simp [h3, h4]), trivial⟩ ⟨rfl, trivial⟩ (fun _ h => Sb.own (by repeat' (first | with_reducible exact Sb.all | exact Sb.nil | (apply Sb.cons; focus (first | ((repeat (first | with_reducible exact Tk.here | with_reducible apply Tk.there)); done) | ((repeat (first | exact Tk.here | apply Tk.there)); done))) | apply Sb.drop)) h)
          · -- else
            refine WC.seq <| WC.region <| sv (veqs rfl rfl) <| sv (vaB rfl) <| WL.nil <| WX.thenN <| ?_
            refine WC.ite rfl (fun h5 => ?_) (fun h5 => ?_)
            · -- then
              exact WC.skip <| WX.mid (()) (trivial) ⟨bI (by rw [bse] at h3 h4 h5; try rw [bse]; simp [h3, h4, h5]), trivial⟩ ⟨rfl, trivial⟩ (fun _ h => Sb.own (by repeat' (first | with_reducible exact Sb.all | exact Sb.nil | (apply Sb.cons; focus (first | ((repeat (first | with_reducible exact Tk.here | with_reducible apply Tk.there)); done) | ((repeat (first | exact Tk.here | apply Tk.there)); done))) | apply Sb.drop)) h)
            · -- else
              refine WC.seq <| WC.region <| sv (veqs rfl rfl) <| sv (vaB rfl) <| WL.nil <| WX.thenN <| ?_
              refine WC.ite rfl (fun h6 => ?_) (fun h6 => ?_)
              · -- then
                exact WC.skip <| WX.mid (()) (trivial) ⟨bI (by rw [bse] at h3 h4 h5 h6; try rw [bse]; simp [h3, h4, h5, h6]), trivial⟩ ⟨rfl, trivial⟩ (fun _ h => Sb.own (by repeat' (first | with_reducible exact Sb.all | exact Sb.nil | (apply Sb.cons; focus (first | ((repeat (first | with_reducible exact Tk.here | with_reducible apply Tk.there)); done) | ((repeat (first | exact Tk.here | apply Tk.there)); done))) | apply Sb.drop)) h)
              · -- else
                refine WC.seq <| WC.region <| sv (veqs rfl rfl) <| sv (vaB rfl) <| WL.nil <| WX.thenN <| ?_
                refine WC.ite rfl (fun h7 => ?_) (fun h7 => ?_)
                · -- then
                  exact WC.skip <| WX.mid (()) (trivial) ⟨bI (by rw [bse] at h3 h4 h5 h6 h7; try rw [bse]; simp [h3, h4, h5, h6, h7]), trivial⟩ ⟨rfl, trivial⟩ (fun _ h => Sb.own (by repeat' (first | with_reducible exact Sb.all | exact Sb.nil | (apply Sb.cons; focus (first | ((repeat (first | with_reducible exact Tk.here | with_reducible apply Tk.there)); done) | ((repeat (first | exact Tk.here | apply Tk.there)); done))) | apply Sb.drop)) h)
                · -- else
                  exact WC.region <| sv (veqs rfl rfl) <| sv (vaB rfl) <| WL.nil <| WX.mid (()) (trivial) ⟨bI (by rw [bse] at h3 h4 h5 h6 h7 ⊢; simp [h3, h4, h5, h6, h7]), trivial⟩ ⟨rfl, trivial⟩ (fun _ h => Sb.own (by repeat' (first | with_reducible exact Sb.all | exact Sb.nil | (apply Sb.cons; focus (first | ((repeat (first | with_reducible exact Tk.here | with_reducible apply Tk.there)); done) | ((repeat (first | exact Tk.here | apply Tk.there)); done))) | apply Sb.drop)) h)
      · -- behind the join
        intro _ _ ρh
        refine WC.ite rfl (fun h8 => ?_) (fun h8 => ?_)
        · -- then
          exact WC.seq <| WC.region <| sv (vaI rfl) <| WL.nil <| WX.thenN <| WC.ret <| WX.blockR <| WX.thenR <| WX.ret1 rfl (()) (trivial) (iv (by unfold rankS; rw [if_neg (fun e => h1 (bse.2 e)), if_neg (fun e => h2 (bse.2 e)), if_pos h8]; rfl)) (fun _ h => Sb.own (by repeat' (first | with_reducible exact Sb.all | exact Sb.nil | (apply Sb.cons; focus (first | ((repeat (first | with_reducible exact Tk.here | with_reducible apply Tk.there)); done) | ((repeat (first | exact Tk.here | apply Tk.there)); done))) | apply Sb.drop)) h)
        · -- else
          refine WC.cutvS (ι := Unit) (fun i => [(15, .bool (decide (w = [43] ∨ w = [45])))]) [(3, .string _)] (fun i => True) ⟨rfl, trivial⟩ ?_ ?_
          · -- up to the join
            refine WC.seq <| WC.region <| sv (veqs rfl rfl) <| sv (vaB rfl) <| WL.nil <| WX.thenN <| ?_
            refine WC.ite rfl (fun h9 => ?_) (fun h9 => ?_)
            · -- then
              exact WC.skip <| WX.mid (()) (trivial) ⟨bI (by rw [bse] at h9; try rw [bse]; simp [h9]), trivial⟩ ⟨rfl, trivial⟩ (fun _ h => Sb.own (by repeat' (first | with_reducible exact Sb.all | exact Sb.nil | (apply Sb.cons; focus (first | ((repeat (first | with_reducible exact Tk.here | with_reducible apply Tk.there)); done) | ((repeat (first | exact Tk.here | apply Tk.there)); done))) | apply Sb.drop)) h)
            · -- else
              exact WC.region <| sv (veqs rfl rfl) <| sv (vaB rfl) <| WL.nil <| WX.mid (()) (trivial) ⟨bI (by rw [bse] at h9 ⊢; simp [h9]), trivial⟩ ⟨rfl, trivial⟩ (fun _ h => Sb.own (by repeat' (first | with_reducible exact Sb.all | exact Sb.nil | (apply Sb.cons; focus (first | ((repeat (first | with_reducible exact Tk.here | with_reducible apply Tk.there)); done) | ((repeat (first | exact Tk.here | apply Tk.there)); done))) | apply Sb.drop)) h)
          · -- behind the join
            intro _ _ ρh
            refine WC.ite rfl (fun h10 => ?_) (fun h10 => ?_)
            · -- then
              exact WC.seq <| WC.region <| sv (vaI rfl) <| WL.nil <| WX.thenN <| WC.ret <| WX.blockR <| WX.thenR <| WX.ret1 rfl (()) (trivial) (iv (by unfold rankS; rw [if_neg (fun e => h1 (bse.2 e)), if_neg (fun e => h2 (bse.2 e)), if_neg h8, if_pos h10]; rfl)) (fun _ h => Sb.own (by repeat' (first | with_reducible exact Sb.all | exact Sb.nil | (apply Sb.cons; focus (first | ((repeat (first | with_reducible exact Tk.here | with_reducible apply Tk.there)); done) | ((repeat (first | exact Tk.here | apply Tk.there)); done))) | apply Sb.drop)) h)
            · -- else
              refine WC.cutvS (ι := Unit) (fun i => [(18, .bool (decide (w = [42] ∨ w = [47] ∨ w = [37])))]) [(3, .string _)] (fun i => True) ⟨rfl, trivial⟩ ?_ ?_
              · -- up to the join
                refine WC.seq <| WC.region <| sv (veqs rfl rfl) <| sv (vaB rfl) <| WL.nil <| WX.thenN <| ?_
                refine WC.ite rfl (fun h11 => ?_) (fun h11 => ?_)
                · -- then
                  exact WC.skip <| WX.mid (()) (trivial) ⟨bI (by rw [bse] at h11; try rw [bse]; simp [h11]), trivial⟩ ⟨rfl, trivial⟩ (fun _ h => Sb.own (by repeat' (first | with_reducible exact Sb.all | exact Sb.nil | (apply Sb.cons; focus (first | ((repeat (first | with_reducible exact Tk.here | with_reducible apply Tk.there)); done) | ((repeat (first | exact Tk.here | apply Tk.there)); done))) | apply Sb.drop)) h)
                · -- else
                  refine WC.seq <| WC.region <| sv (veqs rfl rfl) <| sv (vaB rfl) <| WL.nil <| WX.thenN <| ?_
                  refine WC.ite rfl (fun h12 => ?_) (fun h12 => ?_)
                  · -- then
                    exact WC.skip <| WX.mid (()) (trivial) ⟨bI (by rw [bse] at h11 h12; try rw [bse]; simp [h11, h12]), trivial⟩ ⟨rfl, trivial⟩ (fun _ h => Sb.own (by repeat' (first | with_reducible exact Sb.all | exact Sb.nil | (apply Sb.cons; focus (first | ((repeat (first | with_reducible exact Tk.here | with_reducible apply Tk.there)); done) | ((repeat (first | exact Tk.here | apply Tk.there)); done))) | apply Sb.drop)) h)
                  · -- else
                    exact WC.region <| sv (veqs rfl rfl) <| sv (vaB rfl) <| WL.nil <| WX.mid (()) (trivial) ⟨bI (by rw [bse] at h11 h12 ⊢; simp [h11, h12]), trivial⟩ ⟨rfl, trivial⟩ (fun _ h => Sb.own (by repeat' (first | with_reducible exact Sb.all | exact Sb.nil | (apply Sb.cons; focus (first | ((repeat (first | with_reducible exact Tk.here | with_reducible apply Tk.there)); done) | ((repeat (first | exact Tk.here | apply Tk.there)); done))) | apply Sb.drop)) h)
              · -- behind the join
                intro _ _ ρh
                refine WC.ite rfl (fun h13 => ?_) (fun h13 => ?_)
                · -- then
                  exact WC.seq <| WC.region <| sv (vaI rfl) <| WL.nil <| WX.thenN <| WC.ret <| WX.blockR <| WX.thenR <| WX.ret1 rfl (()) (trivial) (iv (by unfold rankS; rw [if_neg (fun e => h1 (bse.2 e)), if_neg (fun e => h2 (bse.2 e)), if_neg h8, if_neg h10, if_pos h13]; rfl)) (fun _ h => Sb.own (by repeat' (first | with_reducible exact Sb.all | exact Sb.nil | (apply Sb.cons; focus (first | ((repeat (first | with_reducible exact Tk.here | with_reducible apply Tk.there)); done) | ((repeat (first | exact Tk.here | apply Tk.there)); done))) | apply Sb.drop)) h)
                · -- else
                  refine WC.cutvS (ι := Unit) (fun i => [(22, .bool (decide (w = [126] ∨ w = [33])))]) [] (fun i => True) trivial ?_ ?_
                  · -- up to the join
                    refine WC.seq <| WC.region <| sv (veqs rfl rfl) <| sv (vaB rfl) <| WL.nil <| WX.thenN <| ?_
                    refine WC.ite rfl (fun h14 => ?_) (fun h14 => ?_)
                    · -- then
                      exact WC.skip <| WX.mid (()) (trivial) ⟨bI (by rw [bse] at h14; try rw [bse]; simp [h14]), trivial⟩ trivial (fun _ h => Sb.own (by repeat' (first | with_reducible exact Sb.all | exact Sb.nil | (apply Sb.cons; focus (first | ((repeat (first | with_reducible exact Tk.here | with_reducible apply Tk.there)); done) | ((repeat (first | exact Tk.here | apply Tk.there)); done))) | apply Sb.drop)) h)
                    · -- else
                      exact WC.region <| sv (veqs rfl rfl) <| sv (vaB rfl) <| WL.nil <| WX.mid (()) (trivial) ⟨bI (by rw [bse] at h14 ⊢; simp [h14]), trivial⟩ trivial (fun _ h => Sb.own (by repeat' (first | with_reducible exact Sb.all | exact Sb.nil | (apply Sb.cons; focus (first | ((repeat (first | with_reducible exact Tk.here | with_reducible apply Tk.there)); done) | ((repeat (first | exact Tk.here | apply Tk.there)); done))) | apply Sb.drop)) h)
                  · -- behind the join
                    intro _ _ ρh
                    refine WC.ite rfl (fun h15 => ?_) (fun h15 => ?_)
                    · -- then
                      exact WC.seq <| WC.region <| sv (vaI rfl) <| WL.nil <| WX.thenN <| WC.ret <| WX.blockR <| WX.thenR <| WX.ret1 rfl (()) (trivial) (iv (by unfold rankS; rw [if_neg (fun e => h1 (bse.2 e)), if_neg (fun e => h2 (bse.2 e)), if_neg h8, if_neg h10, if_neg h13, if_pos h15]; rfl)) (fun _ h => Sb.own (by repeat' (first | with_reducible exact Sb.all | exact Sb.nil | (apply Sb.cons; focus (first | ((repeat (first | with_reducible exact Tk.here | with_reducible apply Tk.there)); done) | ((repeat (first | exact Tk.here | apply Tk.there)); done))) | apply Sb.drop)) h)
                    · -- else
                      exact WC.skip <| WX.blockN <| WX.thenN <| WC.seq <| WC.region <| sv (vaI rfl) <| WL.nil <| WX.thenN <| WC.ret <| WX.ret1 rfl (()) (trivial) (iv (by unfold rankS; rw [if_neg (fun e => h1 (bse.2 e)), if_neg (fun e => h2 (bse.2 e)), if_neg h8, if_neg h10, if_neg h13, if_neg h15]; rfl)) (fun _ h => Sb.own (by repeat' (first | with_reducible exact Sb.all | exact Sb.nil | (apply Sb.cons; focus (first | ((repeat (first | with_reducible exact Tk.here | with_reducible apply Tk.there)); done) | ((repeat (first | exact Tk.here | apply Tk.there)); done))) | apply Sb.drop)) h)
end Go.Proofs.YtoeglkkmjmhmiaaDoor
