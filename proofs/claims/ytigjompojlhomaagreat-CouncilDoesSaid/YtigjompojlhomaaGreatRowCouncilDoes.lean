/-
  The statement of CouncilDoes: whatever the input the law answers true, and its arguments read behind the call as before.
-/
import Derived.Test.YtigjompojlhomaaGreatRows
import Derived.Test.YtigjompojlhomaaGreatPg6
namespace Go.Proofs.YtigjompojlhomaaGreat
open Go.ChangeShapes Go.WideShapes Go.ChangeAt Go.RowKit Go.Sl
open Go.ChangeMaps (open_string shut_string)
set_option linter.unusedVariables false
theorem councilDoes_own : ownKnob Tryz.prog.godebug = none := by kernel_rfl
theorem councilDoes_laidOut : laidOutB Tryz.prog = true := by kernel_rfl
set_option maxRecDepth 100000 in
theorem councilDoes_lifted (os : Os) (started : os.Started) (H : Type) (enc : TypeId × Value → H) :
    ReturnsInHanded {} Tryz.checked os 3 .any (Rows.councilDoesSpec.pre6 enc Tryz.prog Tryz.f3 Rows.councilDoesRow.domain false) (Rows.councilDoesSpec.post enc Tryz.prog Tryz.f3 false true false false) := by
  refine returnsInHanded_of_change_sized (C := Tryz.checked) councilDoes_own started (by kernel_rfl) Tryz.func3
    (ChangeSpec.witness6 (enc := enc) (C := Tryz.checked) false ⟨#[], #[.int .i64 0, .slice none 0 0], []⟩ 8 (by kernel_rfl) (by kernel_rfl) (by kernel_rfl) (by kernel_rfl)) ?_
  intro W base args ds gs before hval0 hW hcnd hsz _
  have hval : ∀ (j : Nat) t v, Tryz.f3.params[j]? = some t → args[j]? = some v → Value.okWide Tryz.prog W .any base t v := hval0
  have hW' := hW
  obtain ⟨p, q, hA0, hV, rfl, hfz, hnd⟩ := hW
  have hA : DataW.TrodAll enc Tryz.prog W 0 (fun _ => true) true Tryz.f3.params.toList args.toList ds p := hA0
  rw [Tryz.params3] at hA hval
  obtain ⟨v0, vs0, d0, ds0, p0, q0, hargs, rfl, rfl, h0, tl0⟩ := trodAll_cons hA
  obtain ⟨v1, vs1, d1, ds1, p1, q1, rfl, rfl, rfl, h1, tl1⟩ := trodAll_cons tl0
  obtain ⟨rfl, rfl, rfl⟩ := trodAll_nil tl1
  obtain rfl : args = #[v0, v1] := by cases args; simp_all
  obtain ⟨rfl, rfl⟩ := trodVars_none hV
  obtain ⟨a0, rfl, rfl, rfl, w0⟩ := open_int Tryz.underlying3 (hval 0 3 v0 rfl rfl) h0
  have b0 := i64_of_wf w0
  have k1 := h1
  have lt1 : ∀ x ∈ p1, x.block < W.heap.size := by obtain ⟨m, hm⟩ := k1; exact DataW.trod_lt m _ _ _ hm
  have hz1 : Wz Tryz.prog 22 d1 := fun m hm => of_decide_eq_true (List.all_eq_true.1 hsz m (DataW.weights_mem_each (j := 1) (t := 22) rfl rfl m hm))
  obtain ⟨x1, cx1, g1⟩ := (let ⟨_, hf⟩ := k1; (Vw.slice (s := 6) Tryz.underlying22 (by kernel_rfl) (Vw.struct (s := 6) Tryz.underlying34 (by kernel_rfl) (by kernel_rfl) (Vf.cons (s := 4) (Vw.struct (s := 4) Tryz.underlying32 (by kernel_rfl) (by kernel_rfl) (Vf.cons (s := 1) (Vw.i64 Tryz.underlying3) rfl (by kernel_rfl) (Vf.cons (s := 1) (Vw.i64 Tryz.underlying3) rfl (by kernel_rfl) (Vf.cons (s := 1) (Vw.i64 Tryz.underlying3) rfl (by kernel_rfl) (Vf.cons (s := 1) (Vw.i64 Tryz.underlying3) rfl (by kernel_rfl) Vf.nil))))) rfl (by kernel_rfl) (Vf.cons (s := 1) (Vw.bool Tryz.underlying4) rfl (by kernel_rfl) (Vf.cons (s := 1) (Vw.string Tryz.underlying9) rfl (by kernel_rfl) Vf.nil))))).view _ _ _ _ hf hz1)
  obtain ⟨aa1, ll1, cc1, rfl⟩ := okWide_slice Tryz.underlying22 (hval 1 22 v1 rfl rfl)
  have ex1 := slice_cells cx1
  obtain ⟨rfl, rfl, rfl⟩ : aa1 = x1.base ∧ ll1 = x1.xs.length ∧ cc1 = x1.cap := by simpa using ex1
  first | clear hA0 hval0 | skip
  clear hsz
  refine ((law_does20 b0 g1.2.2.1 (fun a h => ⟨(g1.2.2.2 a h).1.1.2.1, (g1.2.2.2 a h).1.1.2.2.1⟩)).run W (Own.start W)).mono fun e W' hE => ?_
  obtain ⟨_, _, he, hO⟩ := hE
  have bel := hO.below
  subst he
  exact ⟨_, rfl, _, _, _, [], _, [], hW', trodAll_mk1 (shut_bool Tryz.underlying4 _), (trodAll_cons_mk (shut_int Tryz.underlying3 w0) (trodAll_cons_mk (Below.trod councilDoes_laidOut (by kernel_rfl) (of_decide_eq_true (by kernel_rfl)) k1 bel lt1) trodAll_mk0)), rfl, bel.frame _, fun h => by cases h⟩
theorem councilDoes_holds : Rows.CouncilDoesSaid :=
  OpenClaim.holds_of_wide 3 Tryz.f3 rfl rfl rfl rfl rfl rfl rfl ⟨rfl, rfl, rfl, rfl, rfl⟩ rfl rfl rfl rfl rfl (by kernel_rfl) Tryz.func3 (by kernel_rfl)
    (of_decide_eq_true (by kernel_rfl)) (by unfold Func.isWrapper; first | (rw [if_pos (by decide +kernel)]; kernel_rfl) | (rw [if_neg (by decide +kernel)]; exact ⟨rfl, rfl⟩))
    (fun os started H enc _ => councilDoes_lifted os started H enc)
#print axioms councilDoes_holds
end Go.Proofs.YtigjompojlhomaaGreat
