/-
  Layer 4: a name that is read.
-/
import Derived.Test.YtoeglkkmjmhmiaaDoorExprSpecE
set_option linter.unusedVariables false
set_option linter.unusedSimpArgs false
set_option maxRecDepth 4000
namespace Go.Proofs.YtoeglkkmjmhmiaaDoor
open Go.Sl Go.RowKit Go.Expr Go.Shelf

def Nm (c : UInt8) : Prop := c = 110 ∨ c = 116 ∨ c = 118
instance (c : UInt8) : Decidable (Nm c) := inferInstanceAs (Decidable (_ ∨ _))
theorem nm_enc {c : UInt8} (h : Nm c) : Utf8.encode (IntKind.i32.wrap (c.toNat : Int)) = bs (txt (.nm c)) := by
  rcases h with rfl | rfl | rfl <;> rfl
theorem u8k {c k : UInt8} (h : (c.toNat : Int) = k.toNat) : c = k := UInt8.toNat_inj.1 (by omega)
theorem not_nm {c : UInt8} (h1 : ¬ (c.toNat : Int) = 110) (h2 : ¬ (c.toNat : Int) = 116) (h3 : ¬ (c.toNat : Int) = 118) : ¬ Nm c := by
  rintro (rfl | rfl | rfl)
  · exact h1 rfl
  · exact h2 rfl
  · exact h3 rfl
theorem ex_name_long {w0 : World} {A : List HProp} {r p : Nat} {S : ByteArray} {l : List UInt8} {c : UInt8} (hl : l <:+ S.data.toList) (hS : S.size ≤ 4611686018427387903) (hk : 1 < runL isLet l) (hc : Nm c) :
    Fun Tryd.prog w0 38 [.pointer (some ⟨r, 0, none⟩), u8v c] (src r S l p :: A) (BadR w0 S A l 40) := by
  unfold BadR
  refine Fun.enter Tryd.func38 rfl Tryd.ntmps38 rfl ?_
  refine WC.seq <| WC.region <| sv (vaP rfl) <| sv (vaP rfl) <| WL.nil <| WX.thenN <| WC.seq <| WC.region <| sv (vmP rfl) <| clx (by repeat' (first | with_reducible exact Sb.all | exact Sb.nil | (apply Sb.cons; focus (first | ((repeat (first | with_reducible exact Tk.here | with_reducible apply Tk.there)); done) | ((repeat (first | exact Tk.here | apply Tk.there)); done))) | apply Sb.drop)) (ex_run hl hS ct59 (fun c A => ex_let)) ct54 rfl fun r1 hr1 => ?_
  refine sv (vaI rfl) <| WL.nil <| WX.thenN <| WC.seq <| WC.region <| sv (vaN rfl) <| WL.nil <| WX.thenN <| ?_
  refine WC.cutvS (ι := Unit) (fun i => [(7, .func (.func (fnOf (.nm c))) #[] #[])]) [(0, .pointer _), (1, .int _ _), (6, .int _ _)] (fun i => True) ⟨rfl, rfl, rfl, trivial⟩ ?_ ?_
  · -- up to the join
    refine WC.seq <| WC.region <| sv (vmI rfl) <| WL.nil <| WX.thenN <| WC.block <| WC.seq <| WC.region <| sv (veq rfl rfl) <| sv (vaB rfl) <| WL.nil <| WX.thenN <| ?_
    refine WC.ite rfl (fun h1 => ?_) (fun h1 => ?_)
    · -- then
      exact WC.region <| sv (vaF rfl) <| WL.nil <| WX.blockN <| WX.mid (()) (trivial) ⟨by have := u8k (k := 110) h1; subst this; rfl, trivial⟩ ⟨rfl, rfl, rfl, trivial⟩ (fun _ h => Sb.own (by repeat' (first | with_reducible exact Sb.all | exact Sb.nil | (apply Sb.cons; focus (first | ((repeat (first | with_reducible exact Tk.here | with_reducible apply Tk.there)); done) | ((repeat (first | exact Tk.here | apply Tk.there)); done))) | apply Sb.drop)) h)
    · -- else
      refine WC.seq <| WC.region <| sv (veq rfl rfl) <| sv (vaB rfl) <| WL.nil <| WX.thenN <| ?_
      refine WC.ite rfl (fun h2 => ?_) (fun h2 => ?_)
      · -- then
        exact WC.region <| sv (vaF rfl) <| WL.nil <| WX.blockN <| WX.mid (()) (trivial) ⟨by have := u8k (k := 116) h2; subst this; rfl, trivial⟩ ⟨rfl, rfl, rfl, trivial⟩ (fun _ h => Sb.own (by repeat' (first | with_reducible exact Sb.all | exact Sb.nil | (apply Sb.cons; focus (first | ((repeat (first | with_reducible exact Tk.here | with_reducible apply Tk.there)); done) | ((repeat (first | exact Tk.here | apply Tk.there)); done))) | apply Sb.drop)) h)
      · -- else
        refine WC.seq <| WC.region <| sv (veq rfl rfl) <| sv (vaB rfl) <| WL.nil <| WX.thenN <| ?_
        refine WC.ite rfl (fun h3 => ?_) (fun h3 => ?_)
        · -- then
          exact WC.region <| sv (vaF rfl) <| WL.nil <| WX.blockN <| WX.mid (()) (trivial) ⟨by have := u8k (k := 118) h3; subst this; rfl, trivial⟩ ⟨rfl, rfl, rfl, trivial⟩ (fun _ h => Sb.own (by repeat' (first | with_reducible exact Sb.all | exact Sb.nil | (apply Sb.cons; focus (first | ((repeat (first | with_reducible exact Tk.here | with_reducible apply Tk.there)); done) | ((repeat (first | exact Tk.here | apply Tk.there)); done))) | apply Sb.drop)) h)
        · -- else
          exact WC.skip <| WX.blockN <| WX.mid (()) (trivial) ⟨absurd hc (not_nm h1 h2 h3), trivial⟩ ⟨rfl, rfl, rfl, trivial⟩ (fun _ h => Sb.own (by repeat' (first | with_reducible exact Sb.all | exact Sb.nil | (apply Sb.cons; focus (first | ((repeat (first | with_reducible exact Tk.here | with_reducible apply Tk.there)); done) | ((repeat (first | exact Tk.here | apply Tk.there)); done))) | apply Sb.drop)) h)
  · -- behind the join
    intro _ _ ρh
    refine WC.seq <| ?_
    refine WC.cutS [(23, .bool true)] [(0, .pointer _), (1, .int _ _), (7, .func _ _ _)] ⟨rfl, rfl, rfl, trivial⟩ ?_ fun ρh => ?_
    · -- expr.go:193
      refine WC.region <| sv (vmI rfl) <| svs (vgt rfl rfl) (fun q1 => ?_) (fun q1 => ?_)
      ·
        exact sv (vmB rfl) <| sng rfl <| sng rfl <| sv (vpkt rfl) <| WL.nil <| WX.mid () trivial ⟨by first | rfl | exact absurd hk (by omega), trivial⟩ ⟨rfl, rfl, rfl, trivial⟩ (fun _ h => Sb.own (by repeat' (first | with_reducible exact Sb.all | exact Sb.nil | (apply Sb.cons; focus (first | ((repeat (first | with_reducible exact Tk.here | with_reducible apply Tk.there)); done) | ((repeat (first | exact Tk.here | apply Tk.there)); done))) | apply Sb.drop)) h)
      ·
        exact sv (vmB rfl) <| svg rfl (vmF rfl) <| svg rfl (vfnF Tryd.underlying33 rfl rfl) <| sv (vpkf rfl) <| WL.nil <| WX.mid () trivial ⟨absurd hk (by omega), trivial⟩ ⟨rfl, rfl, rfl, trivial⟩ (fun _ h => Sb.own (by repeat' (first | with_reducible exact Sb.all | exact Sb.nil | (apply Sb.cons; focus (first | ((repeat (first | with_reducible exact Tk.here | with_reducible apply Tk.there)); done) | ((repeat (first | exact Tk.here | apply Tk.there)); done))) | apply Sb.drop)) h)
    refine WC.iteb rfl (fun h4 => ?_) (fun h4 => ?_)
    · -- then
      exact WC.seq <| WC.plan (.pre [0, 1, 2, 3, 4] (.one [6] 5 (.done [7]))) rfl (by kernel_rfl) <| WPl.preC <| dv (fun g => (vmP rfl)) <| dv (fun g => (vnil rfl)) <| dv (fun g => (vfldp fl43f1 rfl)) <| dv (fun g => (vldc pl3 rfl)) <| dv (fun g => (vbd (ps := [(0, .int _ _), (1, (.int .i64 40))]) (cs := [_, _]) bt48 zt48 rfl (by rfl))) <| WD.nil <| WPl.oneE (fun g => by infer_instance) <| dv (fun g => (vaP rfl)) <| WD.eff rfl <| bxc (v := .agg _) (cs := [.int _ _, .int _ _]) rfl rfl fun b4 => WL.nil <| WX.br <| WPl.finC <| dv (fun g => (vaP rfl)) <| WD.nil <| WX.thenN <| WC.ret <| WX.thenR <| WX.ret2 rfl (b4) (trivial) rfl (fun w h => Sb.own (by repeat' (first | with_reducible exact Sb.all | exact Sb.nil | (apply Sb.cons; focus (first | ((repeat (first | with_reducible exact Tk.here | with_reducible apply Tk.there)); done) | ((repeat (first | exact Tk.here | apply Tk.there)); done))) | apply Sb.drop)) h)
    · -- else
      exact absurd h4 (by decide)
theorem ex_name_other {w0 : World} {A : List HProp} {r p : Nat} {S : ByteArray} {l : List UInt8} {c : UInt8} (hl : l <:+ S.data.toList) (hS : S.size ≤ 4611686018427387903) (hc : ¬ Nm c) :
    Fun Tryd.prog w0 38 [.pointer (some ⟨r, 0, none⟩), u8v c] (src r S l p :: A) (BadR w0 S A l 40) := by
  unfold BadR
  refine Fun.enter Tryd.func38 rfl Tryd.ntmps38 rfl ?_
  refine WC.seq <| WC.region <| sv (vaP rfl) <| sv (vaP rfl) <| WL.nil <| WX.thenN <| WC.seq <| WC.region <| sv (vmP rfl) <| clx (by repeat' (first | with_reducible exact Sb.all | exact Sb.nil | (apply Sb.cons; focus (first | ((repeat (first | with_reducible exact Tk.here | with_reducible apply Tk.there)); done) | ((repeat (first | exact Tk.here | apply Tk.there)); done))) | apply Sb.drop)) (ex_run hl hS ct59 (fun c A => ex_let)) ct54 rfl fun r1 hr1 => ?_
  refine sv (vaI rfl) <| WL.nil <| WX.thenN <| WC.seq <| WC.region <| sv (vaN rfl) <| WL.nil <| WX.thenN <| WC.seq <| WC.seq <| WC.region <| sv (vmI rfl) <| WL.nil <| WX.thenN <| WC.block <| WC.seq <| WC.region <| sv (veq rfl rfl) <| sv (vaB rfl) <| WL.nil <| WX.thenN <| ?_
  refine WC.ite rfl (fun h1 => ?_) (fun h1 => ?_)
  · -- then
    exact absurd (.inl (u8k (k := 110) h1)) hc
  · -- else
    refine WC.seq <| WC.region <| sv (veq rfl rfl) <| sv (vaB rfl) <| WL.nil <| WX.thenN <| ?_
    refine WC.ite rfl (fun h2 => ?_) (fun h2 => ?_)
    · -- then
      exact absurd (.inr (.inl (u8k (k := 116) h2))) hc
    · -- else
      refine WC.seq <| WC.region <| sv (veq rfl rfl) <| sv (vaB rfl) <| WL.nil <| WX.thenN <| ?_
      refine WC.ite rfl (fun h3 => ?_) (fun h3 => ?_)
      · -- then
        exact absurd (.inr (.inr (u8k (k := 118) h3))) hc
      · -- else
        refine WC.skip <| WX.blockN <| WX.thenN <| WC.seq <| ?_
        refine WC.cutS [(23, .bool true)] [(0, .pointer _), (1, .int _ _), (7, .nilFunc)] ⟨rfl, rfl, rfl, trivial⟩ ?_ fun ρh => ?_
        · -- expr.go:193
          refine WC.region <| sv (vmI rfl) <| svs (vgt rfl rfl) (fun q1 => ?_) (fun q1 => ?_)
          ·
            exact sv (vmB rfl) <| sng rfl <| sng rfl <| sv (vpkt rfl) <| WL.nil <| WX.mid () trivial ⟨rfl, trivial⟩ ⟨rfl, rfl, rfl, trivial⟩ (fun _ h => Sb.own (by repeat' (first | with_reducible exact Sb.all | exact Sb.nil | (apply Sb.cons; focus (first | ((repeat (first | with_reducible exact Tk.here | with_reducible apply Tk.there)); done) | ((repeat (first | exact Tk.here | apply Tk.there)); done))) | apply Sb.drop)) h)
          ·
            exact sv (vmB rfl) <| svg rfl (vmN rfl) <| svg rfl (vfnT Tryd.underlying33 rfl rfl) <| sv (vpkf rfl) <| WL.nil <| WX.mid () trivial ⟨rfl, trivial⟩ ⟨rfl, rfl, rfl, trivial⟩ (fun _ h => Sb.own (by repeat' (first | with_reducible exact Sb.all | exact Sb.nil | (apply Sb.cons; focus (first | ((repeat (first | with_reducible exact Tk.here | with_reducible apply Tk.there)); done) | ((repeat (first | exact Tk.here | apply Tk.there)); done))) | apply Sb.drop)) h)
        refine WC.iteb rfl (fun h4 => ?_) (fun h4 => ?_)
        · -- then
          exact WC.seq <| WC.plan (.pre [0, 1, 2, 3, 4] (.one [6] 5 (.done [7]))) rfl (by kernel_rfl) <| WPl.preC <| dv (fun g => (vmP rfl)) <| dv (fun g => (vnil rfl)) <| dv (fun g => (vfldp fl43f1 rfl)) <| dv (fun g => (vldc pl3 rfl)) <| dv (fun g => (vbd (ps := [(0, .int _ _), (1, (.int .i64 40))]) (cs := [_, _]) bt48 zt48 rfl (by rfl))) <| WD.nil <| WPl.oneE (fun g => by infer_instance) <| dv (fun g => (vaP rfl)) <| WD.eff rfl <| bxc (v := .agg _) (cs := [.int _ _, .int _ _]) rfl rfl fun b4 => WL.nil <| WX.br <| WPl.finC <| dv (fun g => (vaP rfl)) <| WD.nil <| WX.thenN <| WC.ret <| WX.thenR <| WX.ret2 rfl (b4) (trivial) rfl (fun w h => Sb.own (by repeat' (first | with_reducible exact Sb.all | exact Sb.nil | (apply Sb.cons; focus (first | ((repeat (first | with_reducible exact Tk.here | with_reducible apply Tk.there)); done) | ((repeat (first | exact Tk.here | apply Tk.there)); done))) | apply Sb.drop)) h)
        · -- else
          exact absurd h4 (by decide)
theorem ex_name_many {w0 : World} {A : List HProp} {r p : Nat} {S : ByteArray} {l : List UInt8} {c : UInt8} (hl : l <:+ S.data.toList) (hS : S.size ≤ 4611686018427387903) (hk : ¬ 1 < runL isLet l) (hc : Nm c) (hp : p = 64) :
    Fun Tryd.prog w0 38 [.pointer (some ⟨r, 0, none⟩), u8v c] (src r S l p :: A) (BadR w0 S A l 5) := by
  unfold BadR
  refine Fun.enter Tryd.func38 rfl Tryd.ntmps38 rfl ?_
  refine WC.seq <| WC.region <| sv (vaP rfl) <| sv (vaP rfl) <| WL.nil <| WX.thenN <| WC.seq <| WC.region <| sv (vmP rfl) <| clx (by repeat' (first | with_reducible exact Sb.all | exact Sb.nil | (apply Sb.cons; focus (first | ((repeat (first | with_reducible exact Tk.here | with_reducible apply Tk.there)); done) | ((repeat (first | exact Tk.here | apply Tk.there)); done))) | apply Sb.drop)) (ex_run hl hS ct59 (fun c A => ex_let)) ct54 rfl fun r1 hr1 => ?_
  refine sv (vaI rfl) <| WL.nil <| WX.thenN <| WC.seq <| WC.region <| sv (vaN rfl) <| WL.nil <| WX.thenN <| ?_
  refine WC.cutvS (ι := Unit) (fun i => [(7, .func (.func (fnOf (.nm c))) #[] #[])]) [(0, .pointer _), (1, .int _ _), (6, .int _ _)] (fun i => True) ⟨rfl, rfl, rfl, trivial⟩ ?_ ?_
  · -- up to the join
    refine WC.seq <| WC.region <| sv (vmI rfl) <| WL.nil <| WX.thenN <| WC.block <| WC.seq <| WC.region <| sv (veq rfl rfl) <| sv (vaB rfl) <| WL.nil <| WX.thenN <| ?_
    refine WC.ite rfl (fun h1 => ?_) (fun h1 => ?_)
    · -- then
      exact WC.region <| sv (vaF rfl) <| WL.nil <| WX.blockN <| WX.mid (()) (trivial) ⟨by have := u8k (k := 110) h1; subst this; rfl, trivial⟩ ⟨rfl, rfl, rfl, trivial⟩ (fun _ h => Sb.own (by repeat' (first | with_reducible exact Sb.all | exact Sb.nil | (apply Sb.cons; focus (first | ((repeat (first | with_reducible exact Tk.here | with_reducible apply Tk.there)); done) | ((repeat (first | exact Tk.here | apply Tk.there)); done))) | apply Sb.drop)) h)
    · -- else
      refine WC.seq <| WC.region <| sv (veq rfl rfl) <| sv (vaB rfl) <| WL.nil <| WX.thenN <| ?_
      refine WC.ite rfl (fun h2 => ?_) (fun h2 => ?_)
      · -- then
        exact WC.region <| sv (vaF rfl) <| WL.nil <| WX.blockN <| WX.mid (()) (trivial) ⟨by have := u8k (k := 116) h2; subst this; rfl, trivial⟩ ⟨rfl, rfl, rfl, trivial⟩ (fun _ h => Sb.own (by repeat' (first | with_reducible exact Sb.all | exact Sb.nil | (apply Sb.cons; focus (first | ((repeat (first | with_reducible exact Tk.here | with_reducible apply Tk.there)); done) | ((repeat (first | exact Tk.here | apply Tk.there)); done))) | apply Sb.drop)) h)
      · -- else
        refine WC.seq <| WC.region <| sv (veq rfl rfl) <| sv (vaB rfl) <| WL.nil <| WX.thenN <| ?_
        refine WC.ite rfl (fun h3 => ?_) (fun h3 => ?_)
        · -- then
          exact WC.region <| sv (vaF rfl) <| WL.nil <| WX.blockN <| WX.mid (()) (trivial) ⟨by have := u8k (k := 118) h3; subst this; rfl, trivial⟩ ⟨rfl, rfl, rfl, trivial⟩ (fun _ h => Sb.own (by repeat' (first | with_reducible exact Sb.all | exact Sb.nil | (apply Sb.cons; focus (first | ((repeat (first | with_reducible exact Tk.here | with_reducible apply Tk.there)); done) | ((repeat (first | exact Tk.here | apply Tk.there)); done))) | apply Sb.drop)) h)
        · -- else
          exact WC.skip <| WX.blockN <| WX.mid (()) (trivial) ⟨absurd hc (not_nm h1 h2 h3), trivial⟩ ⟨rfl, rfl, rfl, trivial⟩ (fun _ h => Sb.own (by repeat' (first | with_reducible exact Sb.all | exact Sb.nil | (apply Sb.cons; focus (first | ((repeat (first | with_reducible exact Tk.here | with_reducible apply Tk.there)); done) | ((repeat (first | exact Tk.here | apply Tk.there)); done))) | apply Sb.drop)) h)
  · -- behind the join
    intro _ _ ρh
    refine WC.seq <| ?_
    refine WC.cutS [(23, .bool false)] [(0, .pointer _), (1, .int _ _), (7, .func _ _ _)] ⟨rfl, rfl, rfl, trivial⟩ ?_ fun ρh => ?_
    · -- expr.go:193
      refine WC.region <| sv (vmI rfl) <| svs (vgt rfl rfl) (fun q1 => ?_) (fun q1 => ?_)
      ·
        exact sv (vmB rfl) <| sng rfl <| sng rfl <| sv (vpkt rfl) <| WL.nil <| WX.mid () trivial ⟨absurd hk (by omega), trivial⟩ ⟨rfl, rfl, rfl, trivial⟩ (fun _ h => Sb.own (by repeat' (first | with_reducible exact Sb.all | exact Sb.nil | (apply Sb.cons; focus (first | ((repeat (first | with_reducible exact Tk.here | with_reducible apply Tk.there)); done) | ((repeat (first | exact Tk.here | apply Tk.there)); done))) | apply Sb.drop)) h)
      ·
        exact sv (vmB rfl) <| svg rfl (vmF rfl) <| svg rfl (vfnF Tryd.underlying33 rfl rfl) <| sv (vpkf rfl) <| WL.nil <| WX.mid () trivial ⟨rfl, trivial⟩ ⟨rfl, rfl, rfl, trivial⟩ (fun _ h => Sb.own (by repeat' (first | with_reducible exact Sb.all | exact Sb.nil | (apply Sb.cons; focus (first | ((repeat (first | with_reducible exact Tk.here | with_reducible apply Tk.there)); done) | ((repeat (first | exact Tk.here | apply Tk.there)); done))) | apply Sb.drop)) h)
    refine WC.iteb rfl (fun h4 => ?_) (fun h4 => ?_)
    · -- then
      exact absurd h4 (by decide)
    · -- else
      refine WC.skip <| WX.thenN <| WC.seq <| WC.seq <| WC.region <| sv (vmP rfl) <| clx (by repeat' (first | with_reducible exact Sb.all | exact Sb.nil | (apply Sb.cons; focus (first | ((repeat (first | with_reducible exact Tk.here | with_reducible apply Tk.there)); done) | ((repeat (first | exact Tk.here | apply Tk.there)); done))) | apply Sb.drop)) (ex_part_many (k := 1) hp) ct32 rfl fun r5 hr5 => ?_
      refine sv (vaP rfl) <| WL.nil <| WX.thenN <| WC.seq <| WC.region <| sv (vmP rfl) <| sv (vpneT Tryd.underlying44 rfl rfl) <| WL.nil <| WX.thenN <| ?_
      refine WC.tt rfl ?_
      exact WC.seq <| WC.region <| sv (vmP rfl) <| sv (vaP rfl) <| sv (vaP rfl) <| WL.nil <| WX.thenN <| WC.ret <| WX.thenR <| WX.ret2 rfl (r5) (trivial) rfl (fun w h => Sb.own (by repeat' (first | with_reducible exact Sb.all | exact Sb.nil | (apply Sb.cons; focus (first | ((repeat (first | with_reducible exact Tk.here | with_reducible apply Tk.there)); done) | ((repeat (first | exact Tk.here | apply Tk.there)); done))) | apply Sb.drop)) h)
theorem ex_name_ok {w0 : World} {A : List HProp} {r p : Nat} {S : ByteArray} {l : List UInt8} {c : UInt8} (hl : l <:+ S.data.toList) (hS : S.size ≤ 4611686018427387903) (hk : ¬ 1 < runL isLet l) (h1 : 1 ≤ l.length) (hc : Nm c) (hp : p < 64) :
    Fun Tryd.prog w0 38 [.pointer (some ⟨r, 0, none⟩), u8v c] (src r S l p :: A) (OkR w0 r S A (.nm c) (l.drop 1) (p + 1)) := by
  unfold OkR
  refine Fun.enter Tryd.func38 rfl Tryd.ntmps38 rfl ?_
  refine WC.seq <| WC.region <| sv (vaP rfl) <| sv (vaP rfl) <| WL.nil <| WX.thenN <| WC.seq <| WC.region <| sv (vmP rfl) <| clx (by repeat' (first | with_reducible exact Sb.all | exact Sb.nil | (apply Sb.cons; focus (first | ((repeat (first | with_reducible exact Tk.here | with_reducible apply Tk.there)); done) | ((repeat (first | exact Tk.here | apply Tk.there)); done))) | apply Sb.drop)) (ex_run hl hS ct59 (fun c A => ex_let)) ct54 rfl fun r1 hr1 => ?_
  refine sv (vaI rfl) <| WL.nil <| WX.thenN <| WC.seq <| WC.region <| sv (vaN rfl) <| WL.nil <| WX.thenN <| ?_
  refine WC.cutvS (ι := Unit) (fun i => [(7, .func (.func (fnOf (.nm c))) #[] #[])]) [(0, .pointer _), (1, .int _ _), (6, .int _ _)] (fun i => True) ⟨rfl, rfl, rfl, trivial⟩ ?_ ?_
  · -- up to the join
    refine WC.seq <| WC.region <| sv (vmI rfl) <| WL.nil <| WX.thenN <| WC.block <| WC.seq <| WC.region <| sv (veq rfl rfl) <| sv (vaB rfl) <| WL.nil <| WX.thenN <| ?_
    refine WC.ite rfl (fun h1 => ?_) (fun h1 => ?_)
    · -- then
      exact WC.region <| sv (vaF rfl) <| WL.nil <| WX.blockN <| WX.mid (()) (trivial) ⟨by have := u8k (k := 110) h1; subst this; rfl, trivial⟩ ⟨rfl, rfl, rfl, trivial⟩ (fun _ h => Sb.own (by repeat' (first | with_reducible exact Sb.all | exact Sb.nil | (apply Sb.cons; focus (first | ((repeat (first | with_reducible exact Tk.here | with_reducible apply Tk.there)); done) | ((repeat (first | exact Tk.here | apply Tk.there)); done))) | apply Sb.drop)) h)
    · -- else
      refine WC.seq <| WC.region <| sv (veq rfl rfl) <| sv (vaB rfl) <| WL.nil <| WX.thenN <| ?_
      refine WC.ite rfl (fun h2 => ?_) (fun h2 => ?_)
      · -- then
        exact WC.region <| sv (vaF rfl) <| WL.nil <| WX.blockN <| WX.mid (()) (trivial) ⟨by have := u8k (k := 116) h2; subst this; rfl, trivial⟩ ⟨rfl, rfl, rfl, trivial⟩ (fun _ h => Sb.own (by repeat' (first | with_reducible exact Sb.all | exact Sb.nil | (apply Sb.cons; focus (first | ((repeat (first | with_reducible exact Tk.here | with_reducible apply Tk.there)); done) | ((repeat (first | exact Tk.here | apply Tk.there)); done))) | apply Sb.drop)) h)
      · -- else
        refine WC.seq <| WC.region <| sv (veq rfl rfl) <| sv (vaB rfl) <| WL.nil <| WX.thenN <| ?_
        refine WC.ite rfl (fun h3 => ?_) (fun h3 => ?_)
        · -- then
          exact WC.region <| sv (vaF rfl) <| WL.nil <| WX.blockN <| WX.mid (()) (trivial) ⟨by have := u8k (k := 118) h3; subst this; rfl, trivial⟩ ⟨rfl, rfl, rfl, trivial⟩ (fun _ h => Sb.own (by repeat' (first | with_reducible exact Sb.all | exact Sb.nil | (apply Sb.cons; focus (first | ((repeat (first | with_reducible exact Tk.here | with_reducible apply Tk.there)); done) | ((repeat (first | exact Tk.here | apply Tk.there)); done))) | apply Sb.drop)) h)
        · -- else
          exact WC.skip <| WX.blockN <| WX.mid (()) (trivial) ⟨absurd hc (not_nm h1 h2 h3), trivial⟩ ⟨rfl, rfl, rfl, trivial⟩ (fun _ h => Sb.own (by repeat' (first | with_reducible exact Sb.all | exact Sb.nil | (apply Sb.cons; focus (first | ((repeat (first | with_reducible exact Tk.here | with_reducible apply Tk.there)); done) | ((repeat (first | exact Tk.here | apply Tk.there)); done))) | apply Sb.drop)) h)
  · -- behind the join
    intro _ _ ρh
    refine WC.seq <| ?_
    refine WC.cutS [(23, .bool false)] [(0, .pointer _), (1, .int _ _), (7, .func _ _ _)] ⟨rfl, rfl, rfl, trivial⟩ ?_ fun ρh => ?_
    · -- expr.go:193
      refine WC.region <| sv (vmI rfl) <| svs (vgt rfl rfl) (fun q1 => ?_) (fun q1 => ?_)
      ·
        exact sv (vmB rfl) <| sng rfl <| sng rfl <| sv (vpkt rfl) <| WL.nil <| WX.mid () trivial ⟨absurd hk (by omega), trivial⟩ ⟨rfl, rfl, rfl, trivial⟩ (fun _ h => Sb.own (by repeat' (first | with_reducible exact Sb.all | exact Sb.nil | (apply Sb.cons; focus (first | ((repeat (first | with_reducible exact Tk.here | with_reducible apply Tk.there)); done) | ((repeat (first | exact Tk.here | apply Tk.there)); done))) | apply Sb.drop)) h)
      ·
        exact sv (vmB rfl) <| svg rfl (vmF rfl) <| svg rfl (vfnF Tryd.underlying33 rfl rfl) <| sv (vpkf rfl) <| WL.nil <| WX.mid () trivial ⟨rfl, trivial⟩ ⟨rfl, rfl, rfl, trivial⟩ (fun _ h => Sb.own (by repeat' (first | with_reducible exact Sb.all | exact Sb.nil | (apply Sb.cons; focus (first | ((repeat (first | with_reducible exact Tk.here | with_reducible apply Tk.there)); done) | ((repeat (first | exact Tk.here | apply Tk.there)); done))) | apply Sb.drop)) h)
    refine WC.iteb rfl (fun h4 => ?_) (fun h4 => ?_)
    · -- then
      exact absurd h4 (by decide)
    · -- else
      refine WC.skip <| WX.thenN <| WC.seq <| WC.seq <| WC.region <| sv (vmP rfl) <| clx (by repeat' (first | with_reducible exact Sb.all | exact Sb.nil | (apply Sb.cons; focus (first | ((repeat (first | with_reducible exact Tk.here | with_reducible apply Tk.there)); done) | ((repeat (first | exact Tk.here | apply Tk.there)); done))) | apply Sb.drop)) (ex_part_ok (k := 1) hl hS hp h1) ct32 rfl fun r5 hr5 => ?_
      refine sv (vaP rfl) <| WL.nil <| WX.thenN <| WC.seq <| WC.region <| sv (vmP rfl) <| sv (vpneF Tryd.underlying44 rfl rfl) <| WL.nil <| WX.thenN <| ?_
      refine WC.ff rfl ?_
      exact WC.skip <| WX.thenN <| WC.seq <| WC.region <| sv (vmF rfl) <| sv (vmI rfl) <| sv (vcv is5 Tryd.underlying21 rfl) <| sv (vw (v' := .string (bs (txt (.nm c)))) (vrun Tryd.underlying21 Tryd.underlying9 rfl) (by rw [nm_enc hc])) <| sv (vbd (ps := [(0, .func _ _ _), (1, .string _), (2, (.int .i64 1))]) (cs := [_, _, _]) bt61 zt61 rfl (by rfl)) <| bxc (v := .agg _) (cs := [_, .string _, .int _ _]) rfl rfl fun b10 => sv (vaP rfl) <| sv (vaP rfl) <| WL.nil <| WX.thenN <| WC.ret <| WX.ret2 rfl ((b10, .nm c)) (rfl) rfl (fun w h => Own.pk1 (Own.intro_emp h))
end Go.Proofs.YtoeglkkmjmhmiaaDoor
