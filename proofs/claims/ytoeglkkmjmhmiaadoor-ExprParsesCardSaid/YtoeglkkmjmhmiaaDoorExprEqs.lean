/-
  Layer 4: the laws that hold the reader, its texts, sizes and values against the document's.
-/
import Derived.Test.YtoeglkkmjmhmiaaDoorExprRefK
import Derived.Test.YtoeglkkmjmhmiaaDoorExprLawA
set_option linter.unusedVariables false
set_option linter.unusedSimpArgs false
set_option maxRecDepth 4000
namespace Go.Proofs.YtoeglkkmjmhmiaaDoor
open Go.Sl Go.RowKit Go.Expr Go.Shelf

theorem ref_parse_long {w0 : World} {A : List HProp} {S : ByteArray} (hS : 200 < S.size) : Fun Tryd.prog w0 11 [.string S] A (PBad w0 A 0 2) := by
  refine Fun.enter Tryd.func11 rfl Tryd.ntmps11 rfl ?_
  refine WC.seq <| WC.region <| sv (vaP rfl) <| sv (vaI rfl) <| sv (vaI rfl) <| WL.nil <| WX.thenN <| WC.seq <| WC.seq <| WC.region <| sv (vmT rfl) <| sv (vlens Tryd.underlying9 rfl) <| sv (vgt rfl rfl) <| WL.nil <| WX.thenN <| ?_
  refine WC.ite rfl (fun h1 => ?_) (fun h1 => ?_)
  · -- then
    exact WC.seq <| WC.region <| sv (vaP rfl) <| sv (vaI rfl) <| sv (vaI rfl) <| WL.nil <| WX.thenN <| WC.ret <| WX.thenR <| WX.ret3 rfl (()) (trivial) rfl (fun _ h => Sb.own (by repeat' (first | with_reducible exact Sb.all | exact Sb.nil | (apply Sb.cons; focus (first | ((repeat (first | with_reducible exact Tk.here | with_reducible apply Tk.there)); done) | ((repeat (first | exact Tk.here | apply Tk.there)); done))) | apply Sb.drop)) h)
  · -- else
    exact absurd (by omega) h1
theorem ref_parse_of {w0 : World} {A : List HProp} {S : ByteArray} {R : Except (Nat × Int) Tr} (hR : parseS S.data.toList = R) : Fun Tryd.prog w0 11 [.string S] A (RRes w0 A R) := by
  have hsz : S.data.toList.length = S.size := rfl
  by_cases h2 : 200 < S.size
  · have e : R = .error (0, 2) := by rw [← hR]; unfold parseS; rw [if_pos (by omega)]
    subst e
    exact ref_parse_long h2
  · rw [← hR, parse_ans (by omega)]
    exact ref_parse_run (by omega) (run_ans _)
theorem rp_bad {w0 : World} {A : List HProp} {S : ByteArray} {k : Nat} {e : Int} (h : parseS S.data.toList = .error (k, e)) : Fun Tryd.prog w0 11 [.string S] A (PBad w0 A k e) := ref_parse_of h
theorem rp_ok {w0 : World} {A : List HProp} {S : ByteArray} {x : Tr} (h : parseS S.data.toList = .ok x) : Fun Tryd.prog w0 11 [.string S] A (Ret w0 (fun _ : Nat => True) (fun p => .tuple #[.pointer (some ⟨p, 0, none⟩), .int .i64 0, .int .i64 0]) (fun p => rex p x :: A)) := ref_parse_of h
theorem xp_bad {w0 : World} {A : List HProp} {S : ByteArray} {k : Nat} {e : Int} (ht : TabW w0) (h : parseS S.data.toList = .error (k, e)) : Fun Tryd.prog w0 10 [.string S] A (PBad w0 A k e) := ex_parse_of ht h
theorem xp_ok {w0 : World} {A : List HProp} {S : ByteArray} {x : Tr} (ht : TabW w0) (h : parseS S.data.toList = .ok x) : Fun Tryd.prog w0 10 [.string S] A (POk w0 A x) := ex_parse_of ht h
theorem ps_bad {w0 : World} {A : List HProp} {S : ByteArray} {k : Nat} {e : Int} (htb : TabW w0) (hR : parseS S.data.toList = .error (k, e)) : Fun Tryd.prog w0 3 [.string S] A (Ret w0 (fun _ : Unit => True) (fun _ => .bool true) (fun _ => A)) := by
  refine Fun.enter Tryd.func3 rfl Tryd.ntmps3 rfl ?_
  refine WC.seq <| WC.region <| sv (vaB rfl) <| WL.nil <| WX.thenN <| WC.seq <| WC.region <| sv (vmT rfl) <| clx (by repeat' (first | with_reducible exact Sb.all | exact Sb.nil | (apply Sb.cons; focus (first | ((repeat (first | with_reducible exact Tk.here | with_reducible apply Tk.there)); done) | ((repeat (first | exact Tk.here | apply Tk.there)); done))) | apply Sb.drop)) (xp_bad htb hR) ct10 rfl fun r1 hr1 => ?_
  refine sv vmv <| sv (vex rfl rfl) <| sv (vex rfl rfl) <| sv (vex rfl rfl) <| sv (vaP rfl) <| sv (vaI rfl) <| sv (vaI rfl) <| WL.nil <| WX.thenN <| WC.seq <| WC.region <| sv (vmT rfl) <| clx (by repeat' (first | with_reducible exact Sb.all | exact Sb.nil | (apply Sb.cons; focus (first | ((repeat (first | with_reducible exact Tk.here | with_reducible apply Tk.there)); done) | ((repeat (first | exact Tk.here | apply Tk.there)); done))) | apply Sb.drop)) (rp_bad hR) ct11 rfl fun r2 hr2 => ?_
  refine sv vmv <| sv (vex rfl rfl) <| sv (vex rfl rfl) <| sv (vex rfl rfl) <| sv (vaP rfl) <| sv (vaI rfl) <| sv (vaI rfl) <| WL.nil <| WX.thenN <| WC.seq <| ?_
  refine WC.cutS [(35, .bool false)] [(3, .pointer _), (6, .pointer _)] ⟨rfl, rfl, trivial⟩ ?_ fun ρh => ?_
  · -- law.go:25
    exact WC.region <| sv (vmI rfl) <| sv (vmI rfl) <| sv (vF (vne rfl rfl) (by omega)) <| sv (vmB rfl) <| svg rfl (vmI rfl) <| svg rfl (vmI rfl) <| svg rfl (vF (vne rfl rfl) (by omega)) <| sv (vpkf rfl) <| sv (vmB rfl) <| svg rfl (vmP rfl) <| svg rfl (vpeqT Tryd.underlying22 rfl rfl) <| svg rfl (vmP rfl) <| svg rfl (vpeqT Tryd.underlying26 rfl rfl) <| svg rfl (vF (vneb Tryd.underlying4 rfl rfl) (by simp)) <| sv (vpkf rfl) <| WL.nil <| WX.mid () trivial ⟨rfl, trivial⟩ ⟨rfl, rfl, trivial⟩ (fun _ h => Sb.own (by repeat' (first | with_reducible exact Sb.all | exact Sb.nil | (apply Sb.cons; focus (first | ((repeat (first | with_reducible exact Tk.here | with_reducible apply Tk.there)); done) | ((repeat (first | exact Tk.here | apply Tk.there)); done))) | apply Sb.drop)) h)
  refine WC.ff rfl ?_
  refine WC.skip <| WX.thenN <| ?_
  refine WC.cutS [(2, .bool true)] [] trivial ?_ fun ρh => ?_
  · -- law.go:28
    refine WC.region <| clx (by repeat' (first | with_reducible exact Sb.all | exact Sb.nil | (apply Sb.cons; focus (first | ((repeat (first | with_reducible exact Tk.here | with_reducible apply Tk.there)); done) | ((repeat (first | exact Tk.here | apply Tk.there)); done))) | apply Sb.drop)) (law_awake htb) ct12 rfl fun r5 hr5 => ?_
    exact sv (vmB rfl) <| svg rfl (vmP rfl) <| svg rfl (vpeqT Tryd.underlying22 rfl rfl) <| svg rfl (vmB rfl) <| sng rfl <| sng rfl <| sng rfl <| sng rfl <| sng rfl <| sng rfl <| sng rfl <| sng rfl <| sng rfl <| sng rfl <| sng rfl <| sng rfl <| svg rfl (vpkt rfl) <| sv (vpkt rfl) <| sv (vaB rfl) <| WL.nil <| WX.mid () trivial ⟨rfl, trivial⟩ trivial (fun _ h => Sb.own (by repeat' (first | with_reducible exact Sb.all | exact Sb.nil | (apply Sb.cons; focus (first | ((repeat (first | with_reducible exact Tk.here | with_reducible apply Tk.there)); done) | ((repeat (first | exact Tk.here | apply Tk.there)); done))) | apply Sb.drop)) h)
  exact WC.ret <| WX.ret1 rfl (()) (trivial) rfl (fun _ h => Sb.own (by repeat' (first | with_reducible exact Sb.all | exact Sb.nil | (apply Sb.cons; focus (first | ((repeat (first | with_reducible exact Tk.here | with_reducible apply Tk.there)); done) | ((repeat (first | exact Tk.here | apply Tk.there)); done))) | apply Sb.drop)) h)
theorem ps_ok {w0 : World} {A : List HProp} {S : ByteArray} {x : Tr} (htb : TabW w0) (hz : Expr.sizeT x ≤ 64) (hR : parseS S.data.toList = .ok x) : Fun Tryd.prog w0 3 [.string S] A (Ret w0 (fun _ : Unit => True) (fun _ => .bool true) (fun _ => A)) := by
  refine Fun.enter Tryd.func3 rfl Tryd.ntmps3 rfl ?_
  refine WC.seq <| WC.region <| sv (vaB rfl) <| WL.nil <| WX.thenN <| WC.seq <| WC.region <| sv (vmT rfl) <| clx (by repeat' (first | with_reducible exact Sb.all | exact Sb.nil | (apply Sb.cons; focus (first | ((repeat (first | with_reducible exact Tk.here | with_reducible apply Tk.there)); done) | ((repeat (first | exact Tk.here | apply Tk.there)); done))) | apply Sb.drop)) (xp_ok htb hR) ct10 rfl fun r1 hr1 => ?_
  refine sv vmv <| sv (vex rfl rfl) <| sv (vex rfl rfl) <| sv (vex rfl rfl) <| sv (vaP rfl) <| sv (vaI rfl) <| sv (vaI rfl) <| WL.nil <| WX.thenN <| WC.seq <| WC.region <| sv (vmT rfl) <| clx (by repeat' (first | with_reducible exact Sb.all | exact Sb.nil | (apply Sb.cons; focus (first | ((repeat (first | with_reducible exact Tk.here | with_reducible apply Tk.there)); done) | ((repeat (first | exact Tk.here | apply Tk.there)); done))) | apply Sb.drop)) (rp_ok hR) ct11 rfl fun r2 hr2 => ?_
  refine sv vmv <| sv (vex rfl rfl) <| sv (vex rfl rfl) <| sv (vex rfl rfl) <| sv (vaP rfl) <| sv (vaI rfl) <| sv (vaI rfl) <| WL.nil <| WX.thenN <| WC.seq <| ?_
  refine WC.cutS [(35, .bool false)] [(3, .pointer _), (6, .pointer _)] ⟨rfl, rfl, trivial⟩ ?_ fun ρh => ?_
  · -- law.go:25
    exact WC.region <| sv (vmI rfl) <| sv (vmI rfl) <| sv (vF (vne rfl rfl) (by omega)) <| sv (vmB rfl) <| svg rfl (vmI rfl) <| svg rfl (vmI rfl) <| svg rfl (vF (vne rfl rfl) (by omega)) <| sv (vpkf rfl) <| sv (vmB rfl) <| svg rfl (vmP rfl) <| svg rfl (vpeqF Tryd.underlying22 rfl rfl) <| svg rfl (vmP rfl) <| svg rfl (vpeqF Tryd.underlying26 rfl rfl) <| svg rfl (vF (vneb Tryd.underlying4 rfl rfl) (by simp)) <| sv (vpkf rfl) <| WL.nil <| WX.mid () trivial ⟨rfl, trivial⟩ ⟨rfl, rfl, trivial⟩ (fun _ h => Sb.own (by repeat' (first | with_reducible exact Sb.all | exact Sb.nil | (apply Sb.cons; focus (first | ((repeat (first | with_reducible exact Tk.here | with_reducible apply Tk.there)); done) | ((repeat (first | exact Tk.here | apply Tk.there)); done))) | apply Sb.drop)) h)
  refine WC.ff rfl ?_
  refine WC.skip <| WX.thenN <| ?_
  refine WC.cutS [(2, .bool true)] [] trivial ?_ fun ρh => ?_
  · -- law.go:28
    refine WC.region <| clx (by repeat' (first | with_reducible exact Sb.all | exact Sb.nil | (apply Sb.cons; focus (first | ((repeat (first | with_reducible exact Tk.here | with_reducible apply Tk.there)); done) | ((repeat (first | exact Tk.here | apply Tk.there)); done))) | apply Sb.drop)) (law_awake htb) ct12 rfl fun r5 hr5 => ?_
    refine sv (vmB rfl) <| svg rfl (vmP rfl) <| svg rfl (vpeqF Tryd.underlying22 rfl rfl) <| svg rfl (vmB rfl) <| svg rfl (vmP rfl) <| gy rfl <| clx (by repeat' (first | with_reducible exact Sb.all | exact Sb.nil | (apply Sb.cons; focus (first | ((repeat (first | with_reducible exact Tk.here | with_reducible apply Tk.there)); done) | ((repeat (first | exact Tk.here | apply Tk.there)); done))) | apply Sb.drop)) (ex_text) ct13 rfl fun r7 hr7 => ?_
    refine svg rfl (vmP rfl) <| gy rfl <| clx (by repeat' (first | with_reducible exact Sb.all | exact Sb.nil | (apply Sb.cons; focus (first | ((repeat (first | with_reducible exact Tk.here | with_reducible apply Tk.there)); done) | ((repeat (first | exact Tk.here | apply Tk.there)); done))) | apply Sb.drop)) (ref_text hz) ct14 rfl fun r8 hr8 => ?_
    refine svg rfl (vT (veqs rfl rfl) (by rw [hr1])) <| svg rfl (vmB rfl) <| svg rfl (vmP rfl) <| gy rfl <| clx (by repeat' (first | with_reducible exact Sb.all | exact Sb.nil | (apply Sb.cons; focus (first | ((repeat (first | with_reducible exact Tk.here | with_reducible apply Tk.there)); done) | ((repeat (first | exact Tk.here | apply Tk.there)); done))) | apply Sb.drop)) (ex_size) ct15 rfl fun r9 hr9 => ?_
    refine svg rfl (vmP rfl) <| gy rfl <| clx (by repeat' (first | with_reducible exact Sb.all | exact Sb.nil | (apply Sb.cons; focus (first | ((repeat (first | with_reducible exact Tk.here | with_reducible apply Tk.there)); done) | ((repeat (first | exact Tk.here | apply Tk.there)); done))) | apply Sb.drop)) (ref_size) ct16 rfl fun r10 hr10 => ?_
    exact svg rfl (vT (veq rfl rfl) (by rw [hr1])) <| svg rfl (vpkt rfl) <| svg rfl (vpkf rfl) <| sv (vpkt rfl) <| sv (vaB rfl) <| WL.nil <| WX.mid () trivial ⟨rfl, trivial⟩ trivial (fun _ h => Sb.own (by repeat' (first | with_reducible exact Sb.all | exact Sb.nil | (apply Sb.cons; focus (first | ((repeat (first | with_reducible exact Tk.here | with_reducible apply Tk.there)); done) | ((repeat (first | exact Tk.here | apply Tk.there)); done))) | apply Sb.drop)) h)
  exact WC.ret <| WX.ret1 rfl (()) (trivial) rfl (fun _ h => Sb.own (by repeat' (first | with_reducible exact Sb.all | exact Sb.nil | (apply Sb.cons; focus (first | ((repeat (first | with_reducible exact Tk.here | with_reducible apply Tk.there)); done) | ((repeat (first | exact Tk.here | apply Tk.there)); done))) | apply Sb.drop)) h)
theorem law_parses {w0 : World} {A : List HProp} {S : ByteArray} (htb : TabW w0) : Fun Tryd.prog w0 3 [.string S] A (Ret w0 (fun _ : Unit => True) (fun _ => .bool true) (fun _ => A)) := by
  cases hR : parseS S.data.toList with
  | error e => obtain ⟨k, e⟩ := e; exact ps_bad htb hR
  | ok x => exact ps_ok htb (parseS_sm hR).2.1 hR
theorem es_bad {w0 : World} {A : List HProp} {S : ByteArray} {n t v : Int} {k : Nat} {e : Int} (htb : TabW w0) (hR : parseS S.data.toList = .error (k, e)) : Fun Tryd.prog w0 4 [.string S, .int .i64 n, .int .i64 t, .int .i64 v] A (Ret w0 (fun _ : Unit => True) (fun _ => .bool true) (fun _ => A)) := by
  refine Fun.enter Tryd.func4 rfl Tryd.ntmps4 rfl ?_
  refine WC.seq <| WC.region <| sv (vaB rfl) <| WL.nil <| WX.thenN <| WC.seq <| WC.region <| sv (vmT rfl) <| clx (by repeat' (first | with_reducible exact Sb.all | exact Sb.nil | (apply Sb.cons; focus (first | ((repeat (first | with_reducible exact Tk.here | with_reducible apply Tk.there)); done) | ((repeat (first | exact Tk.here | apply Tk.there)); done))) | apply Sb.drop)) (xp_bad htb hR) ct10 rfl fun r1 hr1 => ?_
  refine sv vmv <| sv (vex rfl rfl) <| sv (vex rfl rfl) <| sv (vex rfl rfl) <| sv (vaP rfl) <| sv (vaI rfl) <| sv (vaI rfl) <| WL.nil <| WX.thenN <| WC.seq <| WC.region <| sv (vmT rfl) <| clx (by repeat' (first | with_reducible exact Sb.all | exact Sb.nil | (apply Sb.cons; focus (first | ((repeat (first | with_reducible exact Tk.here | with_reducible apply Tk.there)); done) | ((repeat (first | exact Tk.here | apply Tk.there)); done))) | apply Sb.drop)) (rp_bad hR) ct11 rfl fun r2 hr2 => ?_
  refine sv vmv <| sv (vex rfl rfl) <| sv (vex rfl rfl) <| sv (vex rfl rfl) <| sv (vaP rfl) <| sv (vaI rfl) <| sv (vaI rfl) <| WL.nil <| WX.thenN <| WC.seq <| ?_
  refine WC.cutS [(36, .bool false)] [(1, .int _ _), (2, .int _ _), (3, .int _ _), (9, .pointer _), (12, .pointer _)] ⟨rfl, rfl, rfl, rfl, rfl, trivial⟩ ?_ fun ρh => ?_
  · -- law.go:35
    exact WC.region <| sv (vmI rfl) <| sv (vmI rfl) <| sv (vF (vne rfl rfl) (by omega)) <| sv (vmB rfl) <| svg rfl (vmP rfl) <| svg rfl (vpeqT Tryd.underlying22 rfl rfl) <| svg rfl (vmP rfl) <| svg rfl (vpeqT Tryd.underlying26 rfl rfl) <| svg rfl (vF (vneb Tryd.underlying4 rfl rfl) (by simp)) <| sv (vpkf rfl) <| WL.nil <| WX.mid () trivial ⟨rfl, trivial⟩ ⟨rfl, rfl, rfl, rfl, rfl, trivial⟩ (fun _ h => Sb.own (by repeat' (first | with_reducible exact Sb.all | exact Sb.nil | (apply Sb.cons; focus (first | ((repeat (first | with_reducible exact Tk.here | with_reducible apply Tk.there)); done) | ((repeat (first | exact Tk.here | apply Tk.there)); done))) | apply Sb.drop)) h)
  refine WC.ff rfl ?_
  refine WC.skip <| WX.thenN <| ?_
  refine WC.cutS [(8, .bool true)] [] trivial ?_ fun ρh => ?_
  · -- law.go:38
    refine WC.region <| clx (by repeat' (first | with_reducible exact Sb.all | exact Sb.nil | (apply Sb.cons; focus (first | ((repeat (first | with_reducible exact Tk.here | with_reducible apply Tk.there)); done) | ((repeat (first | exact Tk.here | apply Tk.there)); done))) | apply Sb.drop)) (law_awake htb) ct12 rfl fun r5 hr5 => ?_
    exact sv (vmB rfl) <| svg rfl (vmP rfl) <| svg rfl (vpeqT Tryd.underlying22 rfl rfl) <| svg rfl (vmB rfl) <| sng rfl <| sng rfl <| sng rfl <| sng rfl <| sng rfl <| sng rfl <| sng rfl <| sng rfl <| sng rfl <| sng rfl <| sng rfl <| svg rfl (vpkt rfl) <| sv (vpkt rfl) <| sv (vaB rfl) <| WL.nil <| WX.mid () trivial ⟨rfl, trivial⟩ trivial (fun _ h => Sb.own (by repeat' (first | with_reducible exact Sb.all | exact Sb.nil | (apply Sb.cons; focus (first | ((repeat (first | with_reducible exact Tk.here | with_reducible apply Tk.there)); done) | ((repeat (first | exact Tk.here | apply Tk.there)); done))) | apply Sb.drop)) h)
  exact WC.ret <| WX.ret1 rfl (()) (trivial) rfl (fun _ h => Sb.own (by repeat' (first | with_reducible exact Sb.all | exact Sb.nil | (apply Sb.cons; focus (first | ((repeat (first | with_reducible exact Tk.here | with_reducible apply Tk.there)); done) | ((repeat (first | exact Tk.here | apply Tk.there)); done))) | apply Sb.drop)) h)
theorem es_ok {w0 : World} {A : List HProp} {S : ByteArray} {n t v : Int} {x : Tr} (htb : TabW w0) (hn : I64 n) (ht : I64 t) (hv : I64 v) (hs : Sm x) (hz : Expr.sizeT x ≤ 64) (hR : parseS S.data.toList = .ok x) : Fun Tryd.prog w0 4 [.string S, .int .i64 n, .int .i64 t, .int .i64 v] A (Ret w0 (fun _ : Unit => True) (fun _ => .bool true) (fun _ => A)) := by
  refine Fun.enter Tryd.func4 rfl Tryd.ntmps4 rfl ?_
  refine WC.seq <| WC.region <| sv (vaB rfl) <| WL.nil <| WX.thenN <| WC.seq <| WC.region <| sv (vmT rfl) <| clx (by repeat' (first | with_reducible exact Sb.all | exact Sb.nil | (apply Sb.cons; focus (first | ((repeat (first | with_reducible exact Tk.here | with_reducible apply Tk.there)); done) | ((repeat (first | exact Tk.here | apply Tk.there)); done))) | apply Sb.drop)) (xp_ok htb hR) ct10 rfl fun r1 hr1 => ?_
  refine sv vmv <| sv (vex rfl rfl) <| sv (vex rfl rfl) <| sv (vex rfl rfl) <| sv (vaP rfl) <| sv (vaI rfl) <| sv (vaI rfl) <| WL.nil <| WX.thenN <| WC.seq <| WC.region <| sv (vmT rfl) <| clx (by repeat' (first | with_reducible exact Sb.all | exact Sb.nil | (apply Sb.cons; focus (first | ((repeat (first | with_reducible exact Tk.here | with_reducible apply Tk.there)); done) | ((repeat (first | exact Tk.here | apply Tk.there)); done))) | apply Sb.drop)) (rp_ok hR) ct11 rfl fun r2 hr2 => ?_
  refine sv vmv <| sv (vex rfl rfl) <| sv (vex rfl rfl) <| sv (vex rfl rfl) <| sv (vaP rfl) <| sv (vaI rfl) <| sv (vaI rfl) <| WL.nil <| WX.thenN <| WC.seq <| ?_
  refine WC.cutS [(36, .bool false)] [(1, .int _ _), (2, .int _ _), (3, .int _ _), (9, .pointer _), (12, .pointer _)] ⟨rfl, rfl, rfl, rfl, rfl, trivial⟩ ?_ fun ρh => ?_
  · -- law.go:35
    exact WC.region <| sv (vmI rfl) <| sv (vmI rfl) <| sv (vF (vne rfl rfl) (by omega)) <| sv (vmB rfl) <| svg rfl (vmP rfl) <| svg rfl (vpeqF Tryd.underlying22 rfl rfl) <| svg rfl (vmP rfl) <| svg rfl (vpeqF Tryd.underlying26 rfl rfl) <| svg rfl (vF (vneb Tryd.underlying4 rfl rfl) (by simp)) <| sv (vpkf rfl) <| WL.nil <| WX.mid () trivial ⟨rfl, trivial⟩ ⟨rfl, rfl, rfl, rfl, rfl, trivial⟩ (fun _ h => Sb.own (by repeat' (first | with_reducible exact Sb.all | exact Sb.nil | (apply Sb.cons; focus (first | ((repeat (first | with_reducible exact Tk.here | with_reducible apply Tk.there)); done) | ((repeat (first | exact Tk.here | apply Tk.there)); done))) | apply Sb.drop)) h)
  refine WC.ff rfl ?_
  refine WC.skip <| WX.thenN <| ?_
  refine WC.cutS [(8, .bool true)] [] trivial ?_ fun ρh => ?_
  · -- law.go:38
    refine WC.region <| clx (by repeat' (first | with_reducible exact Sb.all | exact Sb.nil | (apply Sb.cons; focus (first | ((repeat (first | with_reducible exact Tk.here | with_reducible apply Tk.there)); done) | ((repeat (first | exact Tk.here | apply Tk.there)); done))) | apply Sb.drop)) (law_awake htb) ct12 rfl fun r5 hr5 => ?_
    refine sv (vmB rfl) <| svg rfl (vmP rfl) <| svg rfl (vpeqF Tryd.underlying22 rfl rfl) <| svg rfl (vmB rfl) <| svg rfl (vmP rfl) <| svg rfl (vmI rfl) <| svg rfl (vmI rfl) <| svg rfl (vmI rfl) <| gy rfl <| clx (by repeat' (first | with_reducible exact Sb.all | exact Sb.nil | (apply Sb.cons; focus (first | ((repeat (first | with_reducible exact Tk.here | with_reducible apply Tk.there)); done) | ((repeat (first | exact Tk.here | apply Tk.there)); done))) | apply Sb.drop)) (ex_evalx hn ht hv (by rw [hr1]; exact hs)) ct17 rfl fun r7 hr7 => ?_
    refine svg rfl (vmP rfl) <| svg rfl (vmI rfl) <| svg rfl (vmI rfl) <| svg rfl (vmI rfl) <| gy rfl <| clx (by repeat' (first | with_reducible exact Sb.all | exact Sb.nil | (apply Sb.cons; focus (first | ((repeat (first | with_reducible exact Tk.here | with_reducible apply Tk.there)); done) | ((repeat (first | exact Tk.here | apply Tk.there)); done))) | apply Sb.drop)) (ref_eval hz) ct18 rfl fun r8 hr8 => ?_
    exact svg rfl (vT (veq rfl rfl) (by rw [hr1])) <| svg rfl (vpkf rfl) <| sv (vpkt rfl) <| sv (vaB rfl) <| WL.nil <| WX.mid () trivial ⟨rfl, trivial⟩ trivial (fun _ h => Sb.own (by repeat' (first | with_reducible exact Sb.all | exact Sb.nil | (apply Sb.cons; focus (first | ((repeat (first | with_reducible exact Tk.here | with_reducible apply Tk.there)); done) | ((repeat (first | exact Tk.here | apply Tk.there)); done))) | apply Sb.drop)) h)
  exact WC.ret <| WX.ret1 rfl (()) (trivial) rfl (fun _ h => Sb.own (by repeat' (first | with_reducible exact Sb.all | exact Sb.nil | (apply Sb.cons; focus (first | ((repeat (first | with_reducible exact Tk.here | with_reducible apply Tk.there)); done) | ((repeat (first | exact Tk.here | apply Tk.there)); done))) | apply Sb.drop)) h)
theorem law_evals {w0 : World} {A : List HProp} {S : ByteArray} {n t v : Int} (htb : TabW w0) (hn : I64 n) (ht : I64 t) (hv : I64 v) : Fun Tryd.prog w0 4 [.string S, .int .i64 n, .int .i64 t, .int .i64 v] A (Ret w0 (fun _ : Unit => True) (fun _ => .bool true) (fun _ => A)) := by
  cases hR : parseS S.data.toList with
  | error e => obtain ⟨k, e⟩ := e; exact es_bad htb hR
  | ok x => obtain ⟨hs, hz, _, _⟩ := parseS_sm hR; exact es_ok htb hn ht hv hs hz hR
end Go.Proofs.YtoeglkkmjmhmiaaDoor
