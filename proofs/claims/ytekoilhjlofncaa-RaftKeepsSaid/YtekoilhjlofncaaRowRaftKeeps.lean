/-
  The statement of RaftKeeps: whatever the input the law answers true, and its arguments read behind the call as before.
-/
import Derived.Test.YtekoilhjlofncaaRows
import Derived.Test.YtekoilhjlofncaaRaftRowK
import Derived.Test.YtekoilhjlofncaaSlRow
import Derived.Test.YtekoilhjlofncaaSlView
namespace Go.Proofs.Ytekoilhjlofncaa
open Go.ChangeShapes Go.WideShapes Go.ChangeAt Go.RowKit Go.Sl
open Go.ChangeMaps (open_string shut_string)
set_option linter.unusedVariables false
theorem raftKeeps_own : ownKnob Try.prog.godebug = none := by kernel_rfl
theorem raftKeeps_laidOut : laidOutB Try.prog = true := by kernel_rfl
set_option maxRecDepth 100000 in
theorem raftKeeps_lifted (os : Os) (started : os.Started) (H : Type) (enc : TypeId × Value → H) :
    ReturnsInHanded {} Try.checked os 6 .any (Rows.raftKeepsSpec.pre6 enc Try.prog Try.f6 Rows.raftKeepsRow.domain false) (Rows.raftKeepsSpec.post enc Try.prog Try.f6 false true false false) := by
  refine returnsInHanded_of_change (C := Try.checked) raftKeeps_own started (by kernel_rfl) Try.func6
    (ChangeSpec.witness6 (enc := enc) (C := Try.checked) false ⟨#[], #[.int .i64 0, .int .i64 0, .agg #[.int .i64 0, .int .i64 0, .slice none 0 0], .slice none 0 0], []⟩ 8 (by kernel_rfl) (by kernel_rfl) (by kernel_rfl) (by kernel_rfl)) ?_
  intro W base args ds gs before hval0 hW hcnd _
  have hval : ∀ (j : Nat) t v, Try.f6.params[j]? = some t → args[j]? = some v → Value.okWide Try.prog W .any base t v := hval0
  have hW' := hW
  obtain ⟨p, q, hA0, hV, rfl, hfz, hnd⟩ := hW
  have hA : DataW.TrodAll enc Try.prog W 0 (fun _ => true) true Try.f6.params.toList args.toList ds p := hA0
  rw [Try.params6] at hA hval
  obtain ⟨v0, vs0, d0, ds0, p0, q0, hargs, rfl, rfl, h0, tl0⟩ := trodAll_cons hA
  obtain ⟨v1, vs1, d1, ds1, p1, q1, rfl, rfl, rfl, h1, tl1⟩ := trodAll_cons tl0
  obtain ⟨v2, vs2, d2, ds2, p2, q2, rfl, rfl, rfl, h2, tl2⟩ := trodAll_cons tl1
  obtain ⟨v3, vs3, d3, ds3, p3, q3, rfl, rfl, rfl, h3, tl3⟩ := trodAll_cons tl2
  obtain ⟨rfl, rfl, rfl⟩ := trodAll_nil tl3
  obtain rfl : args = #[v0, v1, v2, v3] := by cases args; simp_all
  obtain ⟨rfl, rfl⟩ := trodVars_none hV
  obtain ⟨a0, rfl, rfl, rfl, w0⟩ := open_int Try.underlying3 (hval 0 3 v0 rfl rfl) h0
  have b0 := i64_of_wf w0
  obtain ⟨a1, rfl, rfl, rfl, w1⟩ := open_int Try.underlying3 (hval 1 3 v1 rfl rfl) h1
  have b1 := i64_of_wf w1
  have k2 := h2
  have lt2 : ∀ x ∈ p2, x.block < W.heap.size := by obtain ⟨m, hm⟩ := k2; exact DataW.trod_lt m _ _ _ hm
  obtain ⟨x2, cx2, g2⟩ := (let ⟨_, hf⟩ := k2; (Vw.struct (s := 3) Try.underlying24 (by kernel_rfl) (by kernel_rfl) (Vf.cons (s := 1) (Vw.i64 Try.underlying3) rfl (by kernel_rfl) (Vf.cons (s := 1) (Vw.i64 Try.underlying3) rfl (by kernel_rfl) (Vf.cons (s := 1) (Vw.slice (s := 2) Try.underlying22 (by kernel_rfl) (Vw.struct (s := 2) Try.underlying39 (by kernel_rfl) (by kernel_rfl) (Vf.cons (s := 1) (Vw.i64 Try.underlying3) rfl (by kernel_rfl) (Vf.cons (s := 1) (Vw.string Try.underlying9) rfl (by kernel_rfl) Vf.nil)))) rfl (by kernel_rfl) Vf.nil)))).view _ _ _ _ hf)
  obtain ⟨aa2, rfl⟩ := okWide_agg (.inl ⟨_, Try.underlying24⟩) (hval 2 24 v2 rfl rfl)
  obtain rfl := agg_cells cx2
  have k3 := h3
  have lt3 : ∀ x ∈ p3, x.block < W.heap.size := by obtain ⟨m, hm⟩ := k3; exact DataW.trod_lt m _ _ _ hm
  obtain ⟨x3, cx3, g3⟩ := (let ⟨_, hf⟩ := k3; (Vw.slice (s := 11) Try.underlying25 (by kernel_rfl) (Vw.struct (s := 11) Try.underlying30 (by kernel_rfl) (by kernel_rfl) (Vf.cons (s := 1) (Vw.i64 Try.underlying3) rfl (by kernel_rfl) (Vf.cons (s := 9) (Vw.struct (s := 9) Try.underlying28 (by kernel_rfl) (by kernel_rfl) (Vf.cons (s := 1) (Vw.i64 Try.underlying3) rfl (by kernel_rfl) (Vf.cons (s := 1) (Vw.i64 Try.underlying3) rfl (by kernel_rfl) (Vf.cons (s := 1) (Vw.i64 Try.underlying3) rfl (by kernel_rfl) (Vf.cons (s := 1) (Vw.i64 Try.underlying3) rfl (by kernel_rfl) (Vf.cons (s := 1) (Vw.i64 Try.underlying3) rfl (by kernel_rfl) (Vf.cons (s := 1) (Vw.i64 Try.underlying3) rfl (by kernel_rfl) (Vf.cons (s := 1) (Vw.i64 Try.underlying3) rfl (by kernel_rfl) (Vf.cons (s := 1) (Vw.bool Try.underlying4) rfl (by kernel_rfl) (Vf.cons (s := 1) (Vw.slice (s := 2) Try.underlying22 (by kernel_rfl) (Vw.struct (s := 2) Try.underlying39 (by kernel_rfl) (by kernel_rfl) (Vf.cons (s := 1) (Vw.i64 Try.underlying3) rfl (by kernel_rfl) (Vf.cons (s := 1) (Vw.string Try.underlying9) rfl (by kernel_rfl) Vf.nil)))) rfl (by kernel_rfl) Vf.nil)))))))))) rfl (by kernel_rfl) (Vf.cons (s := 1) (Vw.string Try.underlying9) rfl (by kernel_rfl) Vf.nil))))).view _ _ _ _ hf)
  obtain ⟨aa3, ll3, cc3, rfl⟩ := okWide_slice Try.underlying25 (hval 3 25 v3 rfl rfl)
  have ex3 := slice_cells cx3
  obtain ⟨rfl, rfl, rfl⟩ : aa3 = x3.base ∧ ll3 = x3.xs.length ∧ cc3 = x3.cap := by simpa using ex3
  first | clear hA0 hval0 | skip
  refine ((row_keeps x2.2.2.1 x3 g2.2.2.1.2.2.1 ⟨g2.2.2.1.1, g2.2.2.1.2.1⟩ g3.2.2.1 (fun y hy => ⟨(g3.2.2.2 y hy).1.2.1.2.2.2.2.2.2.2.2.1.2.2.1, (g3.2.2.2 y hy).1.2.1.2.2.2.2.2.2.2.2.1.1, (g3.2.2.2 y hy).1.2.1.2.2.2.2.2.2.2.2.1.2.1⟩)).run W (Own.start W)).mono fun e W' hE => ?_
  obtain ⟨_, _, he, hO⟩ := hE
  have bel := hO.below
  subst he
  exact ⟨_, rfl, _, _, _, [], _, [], hW', trodAll_mk1 (shut_bool Try.underlying4 _), (trodAll_cons_mk (shut_int Try.underlying3 w0) (trodAll_cons_mk (shut_int Try.underlying3 w1) (trodAll_cons_mk (Below.trod raftKeeps_laidOut (by kernel_rfl) (of_decide_eq_true (by kernel_rfl)) k2 bel lt2) (trodAll_cons_mk (Below.trod raftKeeps_laidOut (by kernel_rfl) (of_decide_eq_true (by kernel_rfl)) k3 bel lt3) trodAll_mk0)))), rfl, bel.frame _, fun h => by cases h⟩
theorem raftKeeps_holds : Rows.RaftKeepsSaid :=
  OpenClaim.holds_of_wide 6 Try.f6 rfl rfl rfl rfl rfl rfl rfl ⟨rfl, rfl, rfl, rfl, rfl⟩ rfl rfl rfl rfl rfl (by kernel_rfl) Try.func6 (by kernel_rfl)
    (of_decide_eq_true (by kernel_rfl)) (by unfold Func.isWrapper; first | (rw [if_pos (by decide +kernel)]; kernel_rfl) | (rw [if_neg (by decide +kernel)]; exact ⟨rfl, rfl⟩))
    (fun os started H enc _ => raftKeeps_lifted os started H enc)
#print axioms raftKeeps_holds
end Go.Proofs.Ytekoilhjlofncaa
