/-
  Layer 4: Parse, Text, Size, Eval.
-/
import Derived.Test.YtoeglkkmjmhmiaaDoorExprSpecI
set_option linter.unusedVariables false
set_option linter.unusedSimpArgs false
set_option maxRecDepth 4000
namespace Go.Proofs.YtoeglkkmjmhmiaaDoor
open Go.Sl Go.RowKit Go.Expr Go.Shelf

abbrev PBad (w0 : World) (A : List HProp) (k : Nat) (e : Int) : Ending → World → Prop :=
  Ret w0 (fun _ : Unit => True) (fun _ => .tuple #[.pointer none, .int .i64 (k : Nat), .int .i64 e]) (fun _ => A)
abbrev POk (w0 : World) (A : List HProp) (x : Tr) : Ending → World → Prop :=
  Ret w0 (fun i : Nat × MT => i.2.tr = x) (fun i => .tuple #[.pointer (some ⟨i.1, 0, none⟩), .int .i64 0, .int .i64 0]) (fun i => exc i.1 i.2 :: hmt i.2 :: A)
def PRes (w0 : World) (A : List HProp) : Except (Nat × Int) Tr → Ending → World → Prop
  | .error (k, e) => PBad w0 A k e
  | .ok x => POk w0 A x
abbrev WHF (w0 : World) (r : Nat) (S : ByteArray) (A : List HProp) (R : Ending → World → Prop) : Prop := Fun Tryd.prog w0 20 [.pointer (some ⟨r, 0, none⟩), .int .i64 1] (src r S S.data.toList 0 :: A) R
theorem ex_parse_long {w0 : World} {A : List HProp} {S : ByteArray} (hS : 200 < S.size) : Fun Tryd.prog w0 10 [.string S] A (PBad w0 A 0 2) := by
  refine Fun.enter Tryd.func10 rfl Tryd.ntmps10 rfl ?_
  refine WC.seq <| WC.region <| sv (vaP rfl) <| sv (vaI rfl) <| sv (vaI rfl) <| WL.nil <| WX.thenN <| WC.seq <| WC.seq <| WC.region <| sv (vmT rfl) <| sv (vlens Tryd.underlying9 rfl) <| sv (vgt rfl rfl) <| WL.nil <| WX.thenN <| ?_
  refine WC.ite rfl (fun h1 => ?_) (fun h1 => ?_)
  · -- then
    exact WC.seq <| WC.region <| sv (vaP rfl) <| sv (vaI rfl) <| sv (vaI rfl) <| WL.nil <| WX.thenN <| WC.ret <| WX.thenR <| WX.ret3 rfl (()) (trivial) rfl (fun _ h => Sb.own (by repeat' (first | with_reducible exact Sb.all | exact Sb.nil | (apply Sb.cons; focus (first | ((repeat (first | with_reducible exact Tk.here | with_reducible apply Tk.there)); done) | ((repeat (first | exact Tk.here | apply Tk.there)); done))) | apply Sb.drop)) h)
  · -- else
    exact absurd (by omega) h1
theorem at0 {S : ByteArray} : ((S.size - S.data.toList.length : Nat) : Int) = 0 := by
  show (((S.size - S.size) : Nat) : Int) = 0
  simp
theorem ex_parse_bad {w0 : World} {A : List HProp} {S : ByteArray} {l2 : List UInt8} {e : Int} (hS : S.size ≤ 200) (hf : ∀ r A, WHF w0 r S A (BadR w0 S A l2 e)) : Fun Tryd.prog w0 10 [.string S] A (PBad w0 A (S.size - l2.length) e) := by
  unfold BadR at hf
  refine Fun.enter Tryd.func10 rfl Tryd.ntmps10 rfl ?_
  refine WC.seq <| WC.region <| sv (vaP rfl) <| sv (vaI rfl) <| sv (vaI rfl) <| WL.nil <| WX.thenN <| WC.seq <| WC.seq <| WC.region <| sv (vmT rfl) <| sv (vlens Tryd.underlying9 rfl) <| sv (vgt rfl rfl) <| WL.nil <| WX.thenN <| ?_
  refine WC.ite rfl (fun h1 => ?_) (fun h1 => ?_)
  · -- then
    exact absurd h1 (by omega)
  · -- else
    refine WC.skip <| WX.thenN <| WC.seq <| WC.region <| sv (vmT rfl) <| sv (vbd (ps := [(0, .string _)]) (cs := [_, _, _]) bt43 zt43 rfl (by rfl)) <| bxc (v := .agg _) (cs := [.string _, .int _ _, .int _ _]) rfl rfl fun b2 => sv (vaP rfl) <| WL.nil <| WX.thenN <| WC.seq <| WC.region <| sv (vmP rfl) <| pm (fun _ h => (show Own w0 (src b2 S S.data.toList 0 :: A) _ from by unfold src; rw [at0]; exact h)) <| clx (by repeat' (first | with_reducible exact Sb.all | exact Sb.nil | (apply Sb.cons; focus (first | ((repeat (first | with_reducible exact Tk.here | with_reducible apply Tk.there)); done) | ((repeat (first | exact Tk.here | apply Tk.there)); done))) | apply Sb.drop)) (hf _ _) ct20 rfl fun r3 hr3 => ?_
    refine sv vmv <| sv (vex rfl rfl) <| sv (vex rfl rfl) <| sv (vaP rfl) <| sv (vaP rfl) <| WL.nil <| WX.thenN <| WC.seq <| ?_
    refine WC.cutS [(24, .bool false)] [(5, .pointer _), (6, .pointer _), (7, .pointer _)] ⟨rfl, rfl, rfl, trivial⟩ ?_ fun ρh => ?_
    · -- expr.go:231
      exact WC.region <| sv (vmP rfl) <| sv (vpeqF Tryd.underlying44 rfl rfl) <| sv (vmB rfl) <| sng rfl <| sng rfl <| sv (vpkf rfl) <| WL.nil <| WX.mid () trivial ⟨rfl, trivial⟩ ⟨rfl, rfl, rfl, trivial⟩ (fun _ h => Sb.own (by repeat' (first | with_reducible exact Sb.all | exact Sb.nil | (apply Sb.cons; focus (first | ((repeat (first | with_reducible exact Tk.here | with_reducible apply Tk.there)); done) | ((repeat (first | exact Tk.here | apply Tk.there)); done))) | apply Sb.drop)) h)
    refine WC.iteb rfl (fun h2 => ?_) (fun h2 => ?_)
    · -- then
      exact absurd h2 (by decide)
    · -- else
      refine WC.skip <| WX.thenN <| WC.seq <| WC.seq <| WC.region <| sv (vmP rfl) <| sv (vpneT Tryd.underlying44 rfl rfl) <| WL.nil <| WX.thenN <| ?_
      refine WC.tt rfl ?_
      exact WC.seq <| WC.draws rfl (by kernel_rfl) <| qv (vmP rfl) <| qv (vnil rfl) <| qv (vfldpz fl48f0 rfl) <| qv (vldc pl3 rfl) <| qv (vmP rfl) <| qv (vnil rfl) <| qv (vfldp fl48f1 rfl) <| qv (vldc pl23 rfl) <| qv (vaP rfl) <| qv (vaI rfl) <| qv (vaI rfl) <| WQ.nil <| WX.thenN <| WC.ret <| WX.thenR <| WX.ret3 rfl (()) (trivial) rfl (fun _ h => Sb.own (by repeat' (first | with_reducible exact Sb.all | exact Sb.nil | (apply Sb.cons; focus (first | ((repeat (first | with_reducible exact Tk.here | with_reducible apply Tk.there)); done) | ((repeat (first | exact Tk.here | apply Tk.there)); done))) | apply Sb.drop)) h)
theorem ex_parse_rest {w0 : World} {A : List HProp} {S : ByteArray} {l2 : List UInt8} {x : Tr} {q : Nat} {c : UInt8} {l3 : List UInt8} (hS : S.size ≤ 200) (hl : l2 <:+ S.data.toList) (hsk : sk l2 = c :: l3) (hf : ∀ r A, WHF w0 r S A (OkR w0 r S A x l2 q)) : Fun Tryd.prog w0 10 [.string S] A (PBad w0 A (S.size - (sk l2).length) 40) := by
  rw [hsk]
  unfold OkR at hf
  refine Fun.enter Tryd.func10 rfl Tryd.ntmps10 rfl ?_
  refine WC.seq <| WC.region <| sv (vaP rfl) <| sv (vaI rfl) <| sv (vaI rfl) <| WL.nil <| WX.thenN <| WC.seq <| WC.seq <| WC.region <| sv (vmT rfl) <| sv (vlens Tryd.underlying9 rfl) <| sv (vgt rfl rfl) <| WL.nil <| WX.thenN <| ?_
  refine WC.ite rfl (fun h1 => ?_) (fun h1 => ?_)
  · -- then
    exact absurd h1 (by omega)
  · -- else
    refine WC.skip <| WX.thenN <| WC.seq <| WC.region <| sv (vmT rfl) <| sv (vbd (ps := [(0, .string _)]) (cs := [_, _, _]) bt43 zt43 rfl (by rfl)) <| bxc (v := .agg _) (cs := [.string _, .int _ _, .int _ _]) rfl rfl fun b2 => sv (vaP rfl) <| WL.nil <| WX.thenN <| WC.seq <| WC.region <| sv (vmP rfl) <| pm (fun _ h => (show Own w0 (src b2 S S.data.toList 0 :: A) _ from by unfold src; rw [at0]; exact h)) <| clx (by repeat' (first | with_reducible exact Sb.all | exact Sb.nil | (apply Sb.cons; focus (first | ((repeat (first | with_reducible exact Tk.here | with_reducible apply Tk.there)); done) | ((repeat (first | exact Tk.here | apply Tk.there)); done))) | apply Sb.drop)) (hf _ _) ct20 rfl fun r3 hr3 => ?_
    refine sv vmv <| sv (vex rfl rfl) <| sv (vex rfl rfl) <| sv (vaP rfl) <| sv (vaP rfl) <| WL.nil <| WX.thenN <| WC.seq <| ?_
    refine WC.cut0 [(24, .bool true)] [(5, .pointer _), (6, .pointer _), (7, .pointer _)] (exc r3.1 r3.2 :: hmt r3.2 :: src b2 S (c :: l3) q :: A) ⟨rfl, rfl, rfl, trivial⟩ ?_ fun ρh => ?_
    · -- expr.go:231
      refine WC.region <| sv (vmP rfl) <| sv (vpeqT Tryd.underlying44 rfl rfl) <| sv (vmB rfl) <| svg rfl (vmP rfl) <| gy rfl <| clx (by repeat' (first | with_reducible exact Sb.all | exact Sb.nil | (apply Sb.cons; focus (first | ((repeat (first | with_reducible exact Tk.here | with_reducible apply Tk.there)); done) | ((repeat (first | exact Tk.here | apply Tk.there)); done))) | apply Sb.drop)) (ex_skip_some hl (by omega) hsk) ct21 rfl fun r5 hr5 => ?_
      exact sv (vpkt rfl) <| WL.nil <| WX.mid () trivial ⟨rfl, trivial⟩ ⟨rfl, rfl, rfl, trivial⟩ (fun _ h => Sb.own (by repeat' (first | with_reducible exact Sb.all | exact Sb.nil | (apply Sb.cons; focus (first | ((repeat (first | with_reducible exact Tk.here | with_reducible apply Tk.there)); done) | ((repeat (first | exact Tk.here | apply Tk.there)); done))) | apply Sb.drop)) h)
    refine WC.iteb rfl (fun h2 => ?_) (fun h2 => ?_)
    · -- then
      refine WC.region <| sv (vmP rfl) <| sv (vnil rfl) <| sv (vfldp fl43f1 rfl) <| sv (vldc pl3 rfl) <| sv (vbd (ps := [(0, .int _ _), (1, (.int .i64 40))]) (cs := [_, _]) bt48 zt48 rfl (by rfl)) <| bxc (v := .agg _) (cs := [.int _ _, .int _ _]) rfl rfl fun b8 => sv (vaP rfl) <| WL.nil <| WX.thenN <| WC.seq <| WC.seq <| WC.region <| sv (vmP rfl) <| sv (vpneT Tryd.underlying44 rfl rfl) <| WL.nil <| WX.thenN <| ?_
      refine WC.tt rfl ?_
      exact WC.seq <| WC.draws rfl (by kernel_rfl) <| qv (vmP rfl) <| qv (vnil rfl) <| qv (vfldpz fl48f0 rfl) <| qv (vldc pl3 rfl) <| qv (vmP rfl) <| qv (vnil rfl) <| qv (vfldp fl48f1 rfl) <| qv (vldc pl23 rfl) <| qv (vaP rfl) <| qv (vaI rfl) <| qv (vaI rfl) <| WQ.nil <| WX.thenN <| WC.ret <| WX.thenR <| WX.ret3 rfl (()) (trivial) rfl (fun _ h => Sb.own (by repeat' (first | with_reducible exact Sb.all | exact Sb.nil | (apply Sb.cons; focus (first | ((repeat (first | with_reducible exact Tk.here | with_reducible apply Tk.there)); done) | ((repeat (first | exact Tk.here | apply Tk.there)); done))) | apply Sb.drop)) h)
    · -- else
      exact absurd h2 (by decide)
theorem ex_parse_ok {w0 : World} {A : List HProp} {S : ByteArray} {l2 : List UInt8} {x : Tr} {q : Nat} (hS : S.size ≤ 200) (hl : l2 <:+ S.data.toList) (hsk : sk l2 = []) (hf : ∀ r A, WHF w0 r S A (OkR w0 r S A x l2 q)) : Fun Tryd.prog w0 10 [.string S] A (POk w0 A x) := by
  unfold OkR at hf
  refine Fun.enter Tryd.func10 rfl Tryd.ntmps10 rfl ?_
  refine WC.seq <| WC.region <| sv (vaP rfl) <| sv (vaI rfl) <| sv (vaI rfl) <| WL.nil <| WX.thenN <| WC.seq <| WC.seq <| WC.region <| sv (vmT rfl) <| sv (vlens Tryd.underlying9 rfl) <| sv (vgt rfl rfl) <| WL.nil <| WX.thenN <| ?_
  refine WC.ite rfl (fun h1 => ?_) (fun h1 => ?_)
  · -- then
    exact absurd h1 (by omega)
  · -- else
    refine WC.skip <| WX.thenN <| WC.seq <| WC.region <| sv (vmT rfl) <| sv (vbd (ps := [(0, .string _)]) (cs := [_, _, _]) bt43 zt43 rfl (by rfl)) <| bxc (v := .agg _) (cs := [.string _, .int _ _, .int _ _]) rfl rfl fun b2 => sv (vaP rfl) <| WL.nil <| WX.thenN <| WC.seq <| WC.region <| sv (vmP rfl) <| pm (fun _ h => (show Own w0 (src b2 S S.data.toList 0 :: A) _ from by unfold src; rw [at0]; exact h)) <| clx (by repeat' (first | with_reducible exact Sb.all | exact Sb.nil | (apply Sb.cons; focus (first | ((repeat (first | with_reducible exact Tk.here | with_reducible apply Tk.there)); done) | ((repeat (first | exact Tk.here | apply Tk.there)); done))) | apply Sb.drop)) (hf _ _) ct20 rfl fun r3 hr3 => ?_
    refine sv vmv <| sv (vex rfl rfl) <| sv (vex rfl rfl) <| sv (vaP rfl) <| sv (vaP rfl) <| WL.nil <| WX.thenN <| WC.seq <| ?_
    refine WC.cut0 [(24, .bool false)] [(5, .pointer _), (6, .pointer _), (7, .pointer _)] (exc r3.1 r3.2 :: hmt r3.2 :: src b2 S [] q :: A) ⟨rfl, rfl, rfl, trivial⟩ ?_ fun ρh => ?_
    · -- expr.go:231
      refine WC.region <| sv (vmP rfl) <| sv (vpeqT Tryd.underlying44 rfl rfl) <| sv (vmB rfl) <| svg rfl (vmP rfl) <| gy rfl <| clx (by repeat' (first | with_reducible exact Sb.all | exact Sb.nil | (apply Sb.cons; focus (first | ((repeat (first | with_reducible exact Tk.here | with_reducible apply Tk.there)); done) | ((repeat (first | exact Tk.here | apply Tk.there)); done))) | apply Sb.drop)) (ex_skip_none hl (by omega) hsk) ct21 rfl fun r5 hr5 => ?_
      exact sv (vpkt rfl) <| WL.nil <| WX.mid () trivial ⟨rfl, trivial⟩ ⟨rfl, rfl, rfl, trivial⟩ (fun _ h => Sb.own (by repeat' (first | with_reducible exact Sb.all | exact Sb.nil | (apply Sb.cons; focus (first | ((repeat (first | with_reducible exact Tk.here | with_reducible apply Tk.there)); done) | ((repeat (first | exact Tk.here | apply Tk.there)); done))) | apply Sb.drop)) h)
    refine WC.iteb rfl (fun h2 => ?_) (fun h2 => ?_)
    · -- then
      exact absurd h2 (by decide)
    · -- else
      refine WC.skip <| WX.thenN <| WC.seq <| WC.seq <| WC.region <| sv (vmP rfl) <| sv (vpneF Tryd.underlying44 rfl rfl) <| WL.nil <| WX.thenN <| ?_
      refine WC.ff rfl ?_
      exact WC.skip <| WX.thenN <| WC.seq <| WC.region <| sv (vmP rfl) <| sv (vaP rfl) <| sv (vaI rfl) <| sv (vaI rfl) <| WL.nil <| WX.thenN <| WC.ret <| WX.ret3 rfl (r3) (hr3) rfl (fun _ h => Sb.own (by repeat' (first | with_reducible exact Sb.all | exact Sb.nil | (apply Sb.cons; focus (first | ((repeat (first | with_reducible exact Tk.here | with_reducible apply Tk.there)); done) | ((repeat (first | exact Tk.here | apply Tk.there)); done))) | apply Sb.drop)) h)
end Go.Proofs.YtoeglkkmjmhmiaaDoor
