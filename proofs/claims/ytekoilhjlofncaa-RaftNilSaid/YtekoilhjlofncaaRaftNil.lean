/-
  Layer 19: no node.
-/
import Derived.Test.YtekoilhjlofncaaRaftLawB
set_option linter.unusedVariables false
set_option linter.unusedSimpArgs false
set_option maxRecDepth 4000
namespace Go.Proofs.Ytekoilhjlofncaa
open Go.Sl Go.RowKit Go.Raft

theorem raft_tick_nil {w0 : World} {A : List HProp} : Fun Try.prog w0 15 [.pointer none] A (Ret w0 (fun _ : Unit => True) (fun _ => .slice none 0 0) (fun _ => A)) := by
  refine Fun.enterM Try.func15 rfl Try.ntmps15 rfl ?_
  refine WC.seq <| WC.region <| bxc (v := .pointer _) (cs := [.pointer _]) rfl rfl fun b1 => sv (vaS rfl) <| WL.nil <| WX.thenN <| WC.seq <| WC.seq <| WC.region <| sv (vldc pl32 rfl) <| sv (vpeqT Try.underlying32 rfl rfl) <| WL.nil <| WX.thenN <| ?_
  refine WC.tt rfl ?_
  exact WC.seq <| WC.region <| sv (vaS rfl) <| WL.nil <| WX.thenN <| WC.ret <| WX.thenR <| WX.ret1M rfl (()) (trivial) rfl (fun _ h => Sb.own (by repeat' (first | with_reducible exact Sb.all | exact Sb.nil | (apply Sb.cons; focus (first | ((repeat (first | with_reducible exact Tk.here | with_reducible apply Tk.there)); done) | ((repeat (first | exact Tk.here | apply Tk.there)); done))) | apply Sb.drop)) h)
theorem raft_take_nil {w0 : World} {A : List HProp} {m : Mh} : Fun Try.prog w0 17 [.pointer none, .agg (mv m).toArray] A (Ret w0 (fun _ : Unit => True) (fun _ => .slice none 0 0) (fun _ => A)) := by
  refine Fun.enter Try.func17 rfl Try.ntmps17 rfl ?_
  refine WC.seq <| WC.region <| bxc (v := .agg _) (cs := [.int _ _, .int _ _, .int _ _, .int _ _, .int _ _, .int _ _, .int _ _, .bool _, .slice _ _ _]) rfl rfl fun b1 => sv (vaS rfl) <| WL.nil <| WX.thenN <| WC.seq <| ?_
  refine WC.cutS [(13, .bool true)] [(0, .pointer _), (3, _)] ⟨rfl, rfl, trivial⟩ ?_ fun ρh => ?_
  · -- raft.go:171
    exact WC.region <| sv (vmP rfl) <| sv (vpeqT Try.underlying32 rfl rfl) <| sv (vmB rfl) <| sng rfl <| sng rfl <| sng rfl <| sng rfl <| sv (vpkt rfl) <| WL.nil <| WX.mid () trivial ⟨rfl, trivial⟩ ⟨rfl, rfl, trivial⟩ (fun _ h => Sb.own (by repeat' (first | with_reducible exact Sb.all | exact Sb.nil | (apply Sb.cons; focus (first | ((repeat (first | with_reducible exact Tk.here | with_reducible apply Tk.there)); done) | ((repeat (first | exact Tk.here | apply Tk.there)); done))) | apply Sb.drop)) h)
  refine WC.tt rfl ?_
  exact WC.seq <| WC.region <| sv (vaS rfl) <| WL.nil <| WX.thenN <| WC.ret <| WX.thenR <| WX.ret1 rfl (()) (trivial) rfl (fun _ h => Sb.own (by repeat' (first | with_reducible exact Sb.all | exact Sb.nil | (apply Sb.cons; focus (first | ((repeat (first | with_reducible exact Tk.here | with_reducible apply Tk.there)); done) | ((repeat (first | exact Tk.here | apply Tk.there)); done))) | apply Sb.drop)) h)
theorem raft_propose_nil {w0 : World} {A : List HProp} {d : ByteArray} : Fun Try.prog w0 21 [.pointer none, .string d] A (Ret w0 (fun _ : Unit => True) (fun _ => .tuple #[.int .i64 0, .slice none 0 0, .int .i64 3]) (fun _ => A)) := by
  refine Fun.enter Try.func21 rfl Try.ntmps21 rfl ?_
  refine WC.seq <| WC.region <| sv (vaI rfl) <| sv (vaS rfl) <| sv (vaI rfl) <| WL.nil <| WX.thenN <| WC.seq <| WC.block <| WC.seq <| WC.region <| sv (vmP rfl) <| sv (vpeqT Try.underlying32 rfl rfl) <| sv (vaB rfl) <| WL.nil <| WX.thenN <| ?_
  refine WC.tt rfl ?_
  exact WC.seq <| WC.region <| sv (vaI rfl) <| sv (vaS rfl) <| sv (vaI rfl) <| WL.nil <| WX.thenN <| WC.ret <| WX.blockR <| WX.thenR <| WX.ret3 rfl (()) (trivial) rfl (fun _ h => Sb.own (by repeat' (first | with_reducible exact Sb.all | exact Sb.nil | (apply Sb.cons; focus (first | ((repeat (first | with_reducible exact Tk.here | with_reducible apply Tk.there)); done) | ((repeat (first | exact Tk.here | apply Tk.there)); done))) | apply Sb.drop)) h)
theorem raft_stable_nil {w0 : World} {A : List HProp} : Fun Try.prog w0 23 [.pointer none] A (Ret w0 (fun _ : Unit => True) (fun _ => .agg [.int .i64 0, .int .i64 0, .slice none 0 0].toArray) (fun _ => A)) := by
  refine Fun.enter Try.func23 rfl Try.ntmps23 rfl ?_
  refine WC.seq <| WC.region <| alz (cs := [.int .i64 0, .int .i64 0, .slice none 0 0]) zt24 (by rfl) fun b1 => WL.nil <| WX.thenN <| WC.seq <| WC.seq <| WC.region <| sv (vmP rfl) <| sv (vpeqT Try.underlying32 rfl rfl) <| WL.nil <| WX.thenN <| ?_
  refine WC.tt rfl ?_
  exact WC.seq <| WC.region <| sv (vbd (ps := []) (cs := [_, _, _]) bt24 zt24 rfl (by rfl)) <| stAp sz24 rfl rfl rfl (by intro v hv; simp only [List.mem_cons, List.not_mem_nil, or_false] at hv; rcases hv with rfl | rfl | rfl <;> rfl) rfl <| WL.nil <| WX.thenN <| WC.ret <| WX.thenR <| WX.ret1c rfl ag24 sz24 (()) (trivial) rfl rfl (by decide) rfl (fun _ h => Sb.own (by repeat' (first | with_reducible exact Sb.all | exact Sb.nil | (apply Sb.cons; focus (first | ((repeat (first | with_reducible exact Tk.here | with_reducible apply Tk.there)); done) | ((repeat (first | exact Tk.here | apply Tk.there)); done))) | apply Sb.drop)) h)
theorem raft_commit_nil {w0 : World} {A : List HProp} : Fun Try.prog w0 24 [.pointer none] A (Ret w0 (fun _ : Unit => True) (fun _ => .int .i64 0) (fun _ => A)) := by
  refine Fun.enter Try.func24 rfl Try.ntmps24 rfl ?_
  refine WC.seq <| WC.region <| sv (vaI rfl) <| WL.nil <| WX.thenN <| WC.seq <| WC.seq <| WC.region <| sv (vmP rfl) <| sv (vpeqT Try.underlying32 rfl rfl) <| WL.nil <| WX.thenN <| ?_
  refine WC.tt rfl ?_
  exact WC.seq <| WC.region <| sv (vaI rfl) <| WL.nil <| WX.thenN <| WC.ret <| WX.thenR <| WX.ret1 rfl (()) (trivial) rfl (fun _ h => Sb.own (by repeat' (first | with_reducible exact Sb.all | exact Sb.nil | (apply Sb.cons; focus (first | ((repeat (first | with_reducible exact Tk.here | with_reducible apply Tk.there)); done) | ((repeat (first | exact Tk.here | apply Tk.there)); done))) | apply Sb.drop)) h)
theorem raft_role_nil {w0 : World} {A : List HProp} : Fun Try.prog w0 25 [.pointer none] A (Ret w0 (fun _ : Unit => True) (fun _ => .int .i64 0) (fun _ => A)) := by
  refine Fun.enter Try.func25 rfl Try.ntmps25 rfl ?_
  refine WC.seq <| WC.region <| sv (vaI rfl) <| WL.nil <| WX.thenN <| WC.seq <| WC.seq <| WC.region <| sv (vmP rfl) <| sv (vpeqT Try.underlying32 rfl rfl) <| WL.nil <| WX.thenN <| ?_
  refine WC.tt rfl ?_
  exact WC.seq <| WC.region <| sv (vaI rfl) <| WL.nil <| WX.thenN <| WC.ret <| WX.thenR <| WX.ret1 rfl (()) (trivial) rfl (fun _ h => Sb.own (by repeat' (first | with_reducible exact Sb.all | exact Sb.nil | (apply Sb.cons; focus (first | ((repeat (first | with_reducible exact Tk.here | with_reducible apply Tk.there)); done) | ((repeat (first | exact Tk.here | apply Tk.there)); done))) | apply Sb.drop)) h)
theorem raft_leader_nil {w0 : World} {A : List HProp} : Fun Try.prog w0 26 [.pointer none] A (Ret w0 (fun _ : Unit => True) (fun _ => .int .i64 0) (fun _ => A)) := by
  refine Fun.enter Try.func26 rfl Try.ntmps26 rfl ?_
  refine WC.seq <| WC.region <| sv (vaI rfl) <| WL.nil <| WX.thenN <| WC.seq <| WC.seq <| WC.region <| sv (vmP rfl) <| sv (vpeqT Try.underlying32 rfl rfl) <| WL.nil <| WX.thenN <| ?_
  refine WC.tt rfl ?_
  exact WC.seq <| WC.region <| sv (vaI rfl) <| WL.nil <| WX.thenN <| WC.ret <| WX.thenR <| WX.ret1 rfl (()) (trivial) rfl (fun _ h => Sb.own (by repeat' (first | with_reducible exact Sb.all | exact Sb.nil | (apply Sb.cons; focus (first | ((repeat (first | with_reducible exact Tk.here | with_reducible apply Tk.there)); done) | ((repeat (first | exact Tk.here | apply Tk.there)); done))) | apply Sb.drop)) h)
theorem walk_nil {w0 : World} {A : List HProp} {m : Mh} {d : ByteArray} : Fun Try.prog w0 5 [.agg (mv m).toArray, .string d] A (Ret w0 (fun _ : Unit => True) (fun _ => .bool true) (fun _ => A)) := by
  refine Fun.enter Try.func5 rfl Try.ntmps5 rfl ?_
  refine WC.seq <| WC.region <| bxc (v := .agg _) (cs := [.int _ _, .int _ _, .int _ _, .int _ _, .int _ _, .int _ _, .int _ _, .bool _, .slice _ _ _]) rfl rfl fun b1 => sv (vaB rfl) <| WL.nil <| WX.thenN <| WC.seq <| WC.region <| sv (vaP rfl) <| WL.nil <| WX.thenN <| WC.seq <| WC.region <| sv (vmP rfl) <| sv (vmT rfl) <| clx (by repeat' (first | with_reducible exact Sb.all | exact Sb.nil | (apply Sb.cons; focus (first | ((repeat (first | with_reducible exact Tk.here | with_reducible apply Tk.there)); done) | ((repeat (first | exact Tk.here | apply Tk.there)); done))) | apply Sb.drop)) (raft_propose_nil) ct21 rfl fun r2 hr2 => ?_
  refine sv vmv <| sv (vex rfl rfl) <| sv (vex rfl rfl) <| sv (vex rfl rfl) <| sv (vaI rfl) <| sv (vaS rfl) <| sv (vaI rfl) <| WL.nil <| WX.thenN <| WC.seq <| WC.region <| sv (vmP rfl) <| clx (by repeat' (first | with_reducible exact Sb.all | exact Sb.nil | (apply Sb.cons; focus (first | ((repeat (first | with_reducible exact Tk.here | with_reducible apply Tk.there)); done) | ((repeat (first | exact Tk.here | apply Tk.there)); done))) | apply Sb.drop)) (raft_stable_nil) ct23 rfl fun r3 hr3 => ?_
  refine alz (cs := [.int .i64 0, .int .i64 0, .slice none 0 0]) zt24 (by rfl) fun b4 => stAp sz24 rfl rfl rfl (by intro v hv; simp only [List.mem_cons, List.not_mem_nil, or_false] at hv; rcases hv with rfl | rfl | rfl <;> rfl) rfl <| WL.nil <| WX.thenN <| ?_
  refine WC.cutS [(4, .bool true)] [] trivial ?_ fun ρh => ?_
  · -- law.go:369
    exact WC.draws rfl (by kernel_rfl) <| qcl (Fun.quiet (law_awake)) ct12 rfl <| qv (vmB rfl) <| qvg rfl (vmP rfl) <| qclg rfl (Fun.quiet (raft_tick_nil)) ct15 rfl <| qvg rfl (vlen Try.underlying43 rfl) <| qvg rfl (vmP rfl) <| qvg rfl (vldac ag28 sz28 rfl rfl (by decide)) <| qclg rfl (Fun.quiet (raft_take_nil (m := m))) ct17 rfl <| qvg rfl (vlen Try.underlying43 rfl) <| qvg rfl (vadd rfl rfl (by omega)) <| qvg rfl (vmS rfl) <| qvg rfl (vlen Try.underlying43 rfl) <| qvg rfl (vadd rfl rfl (by omega)) <| qvg rfl (vT (veq rfl rfl) (by omega)) <| qv (vpkt rfl) <| qv (vmB rfl) <| qvg rfl (vmI rfl) <| qvg rfl (vT (veq rfl rfl) (by omega)) <| qv (vpkt rfl) <| qv (vmB rfl) <| qvg rfl (vmI rfl) <| qvg rfl (vT (veq rfl rfl) (by omega)) <| qv (vpkt rfl) <| qv (vmB rfl) <| qvg rfl (vfldpz fl24f0 rfl) <| qvg rfl (vldc pl3 rfl) <| qvg rfl (vT (veq rfl rfl) (by omega)) <| qv (vpkt rfl) <| qv (vmB rfl) <| qvg rfl (vfldp fl24f1 rfl) <| qvg rfl (vldc pl3 rfl) <| qvg rfl (vT (veq rfl rfl) (by omega)) <| qv (vpkt rfl) <| qv (vmB rfl) <| qvg rfl (vfldp fl24f2 rfl) <| qvg rfl (vldc pl22 rfl) <| qvg rfl (vlen Try.underlying22 rfl) <| qvg rfl (vT (veq rfl rfl) (by omega)) <| qv (vpkt rfl) <| qv (vmB rfl) <| qvg rfl (vmP rfl) <| qclg rfl (Fun.quiet (raft_commit_nil)) ct24 rfl <| qvg rfl (vT (veq rfl rfl) (by omega)) <| qv (vpkt rfl) <| qv (vmB rfl) <| qvg rfl (vmP rfl) <| qclg rfl (Fun.quiet (raft_role_nil)) ct25 rfl <| qvg rfl (vT (veq rfl rfl) (by omega)) <| qv (vpkt rfl) <| qv (vmB rfl) <| qvg rfl (vmP rfl) <| qclg rfl (Fun.quiet (raft_leader_nil)) ct26 rfl <| qvg rfl (vT (veq rfl rfl) (by omega)) <| qv (vpkt rfl) <| qv (vaB rfl) <| WQ.nil <| WX.mid () trivial ⟨rfl, trivial⟩ trivial (fun _ h => Sb.own (by repeat' (first | with_reducible exact Sb.all | exact Sb.nil | (apply Sb.cons; focus (first | ((repeat (first | with_reducible exact Tk.here | with_reducible apply Tk.there)); done) | ((repeat (first | exact Tk.here | apply Tk.there)); done))) | apply Sb.drop)) h)
  exact WC.ret <| WX.ret1 rfl (()) (trivial) rfl (fun _ h => Sb.own (by repeat' (first | with_reducible exact Sb.all | exact Sb.nil | (apply Sb.cons; focus (first | ((repeat (first | with_reducible exact Tk.here | with_reducible apply Tk.there)); done) | ((repeat (first | exact Tk.here | apply Tk.there)); done))) | apply Sb.drop)) h)
end Go.Proofs.Ytekoilhjlofncaa
