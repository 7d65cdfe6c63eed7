/-
  The statement of CouncilDown: whatever the input the law answers true, and its arguments read behind the call as before.
-/
import Derived.Test.YtigjompojlhomaaRows
import Derived.Test.YtigjompojlhomaaPc6
namespace Go.Proofs.Ytigjompojlhomaa
open Go.ChangeShapes Go.WideShapes Go.ChangeAt Go.RowKit Go.Sl
open Go.ChangeMaps (open_string shut_string)
set_option linter.unusedVariables false
theorem councilDown_own : ownKnob Try.prog.godebug = none := by kernel_rfl
theorem councilDown_laidOut : laidOutB Try.prog = true := by kernel_rfl
set_option maxRecDepth 100000 in
theorem councilDown_lifted (os : Os) (started : os.Started) (H : Type) (enc : TypeId × Value → H) :
    ReturnsInHanded {} Try.checked os 6 .any (Rows.councilDownSpec.pre6 enc Try.prog Try.f6 Rows.councilDownRow.domain false) (Rows.councilDownSpec.post enc Try.prog Try.f6 false true false false) := by
  refine returnsInHanded_of_change_sized (C := Try.checked) councilDown_own started (by kernel_rfl) Try.func6
    (ChangeSpec.witness6 (enc := enc) (C := Try.checked) false ⟨#[], #[.int .i64 0, .int .i64 0, .slice none 0 0], []⟩ 8 (by kernel_rfl) (by kernel_rfl) (by kernel_rfl) (by kernel_rfl)) ?_
  intro W base args ds gs before hval0 hW hcnd hsz _
  have hval : ∀ (j : Nat) t v, Try.f6.params[j]? = some t → args[j]? = some v → Value.okWide Try.prog W .any base t v := hval0
  have hW' := hW
  obtain ⟨p, q, hA0, hV, rfl, hfz, hnd⟩ := hW
  have hA : DataW.TrodAll enc Try.prog W 0 (fun _ => true) true Try.f6.params.toList args.toList ds p := hA0
  rw [Try.params6] at hA hval
  obtain ⟨v0, vs0, d0, ds0, p0, q0, hargs, rfl, rfl, h0, tl0⟩ := trodAll_cons hA
  obtain ⟨v1, vs1, d1, ds1, p1, q1, rfl, rfl, rfl, h1, tl1⟩ := trodAll_cons tl0
  obtain ⟨v2, vs2, d2, ds2, p2, q2, rfl, rfl, rfl, h2, tl2⟩ := trodAll_cons tl1
  obtain ⟨rfl, rfl, rfl⟩ := trodAll_nil tl2
  obtain rfl : args = #[v0, v1, v2] := by cases args; simp_all
  obtain ⟨rfl, rfl⟩ := trodVars_none hV
  obtain ⟨a0, rfl, rfl, rfl, w0⟩ := open_int Try.underlying3 (hval 0 3 v0 rfl rfl) h0
  have b0 := i64_of_wf w0
  obtain ⟨a1, rfl, rfl, rfl, w1⟩ := open_int Try.underlying3 (hval 1 3 v1 rfl rfl) h1
  have b1 := i64_of_wf w1
  have k2 := h2
  have lt2 : ∀ x ∈ p2, x.block < W.heap.size := by obtain ⟨m, hm⟩ := k2; exact DataW.trod_lt m _ _ _ hm
  have hz2 : Wz Try.prog 22 d2 := fun m hm => of_decide_eq_true (List.all_eq_true.1 hsz m (DataW.weights_mem_each (j := 2) (t := 22) rfl rfl m hm))
  obtain ⟨x2, cx2, g2⟩ := (let ⟨_, hf⟩ := k2; (Vw.slice (s := 6) Try.underlying22 (by kernel_rfl) (Vw.struct (s := 6) Try.underlying39 (by kernel_rfl) (by kernel_rfl) (Vf.cons (s := 4) (Vw.struct (s := 4) Try.underlying37 (by kernel_rfl) (by kernel_rfl) (Vf.cons (s := 1) (Vw.i64 Try.underlying3) rfl (by kernel_rfl) (Vf.cons (s := 1) (Vw.i64 Try.underlying3) rfl (by kernel_rfl) (Vf.cons (s := 1) (Vw.i64 Try.underlying3) rfl (by kernel_rfl) (Vf.cons (s := 1) (Vw.i64 Try.underlying3) rfl (by kernel_rfl) Vf.nil))))) rfl (by kernel_rfl) (Vf.cons (s := 1) (Vw.bool Try.underlying4) rfl (by kernel_rfl) (Vf.cons (s := 1) (Vw.string Try.underlying9) rfl (by kernel_rfl) Vf.nil))))).view _ _ _ _ hf hz2)
  obtain ⟨aa2, ll2, cc2, rfl⟩ := okWide_slice Try.underlying22 (hval 2 22 v2 rfl rfl)
  have ex2 := slice_cells cx2
  obtain ⟨rfl, rfl, rfl⟩ : aa2 = x2.base ∧ ll2 = x2.xs.length ∧ cc2 = x2.cap := by simpa using ex2
  first | clear hA0 hval0 | skip
  clear hsz
  refine ((law_down20 b0 b1 g2.2.2.1 (fun a h => ⟨(g2.2.2.2 a h).1.1.2.1, (g2.2.2.2 a h).1.1.2.2.1⟩)).run W (Own.start W)).mono fun e W' hE => ?_
  obtain ⟨_, _, he, hO⟩ := hE
  have bel := hO.below
  subst he
  exact ⟨_, rfl, _, _, _, [], _, [], hW', trodAll_mk1 (shut_bool Try.underlying4 _), (trodAll_cons_mk (shut_int Try.underlying3 w0) (trodAll_cons_mk (shut_int Try.underlying3 w1) (trodAll_cons_mk (Below.trod councilDown_laidOut (by kernel_rfl) (of_decide_eq_true (by kernel_rfl)) k2 bel lt2) trodAll_mk0))), rfl, bel.frame _, fun h => by cases h⟩
theorem councilDown_holds : Rows.CouncilDownSaid :=
  OpenClaim.holds_of_wide 6 Try.f6 rfl rfl rfl rfl rfl rfl rfl ⟨rfl, rfl, rfl, rfl, rfl⟩ rfl rfl rfl rfl rfl (by kernel_rfl) Try.func6 (by kernel_rfl)
    (of_decide_eq_true (by kernel_rfl)) (by unfold Func.isWrapper; first | (rw [if_pos (by decide +kernel)]; kernel_rfl) | (rw [if_neg (by decide +kernel)]; exact ⟨rfl, rfl⟩))
    (fun os started H enc _ => councilDown_lifted os started H enc)
#print axioms councilDown_holds
end Go.Proofs.Ytigjompojlhomaa
