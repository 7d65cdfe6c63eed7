/-
  The statement of CouncilNil: whatever the input the law answers true, and its arguments read behind the call as before.
-/
import Derived.Test.YtigjompojlhomaaRows
import Derived.Test.YtigjompojlhomaaPa6
namespace Go.Proofs.Ytigjompojlhomaa
open Go.ChangeShapes Go.WideShapes Go.ChangeAt Go.RowKit Go.Sl
open Go.ChangeMaps (open_string shut_string)
set_option linter.unusedVariables false
theorem councilNil_own : ownKnob Try.prog.godebug = none := by kernel_rfl
theorem councilNil_laidOut : laidOutB Try.prog = true := by kernel_rfl
set_option maxRecDepth 100000 in
theorem councilNil_lifted (os : Os) (started : os.Started) (H : Type) (enc : TypeId × Value → H) :
    ReturnsInHanded {} Try.checked os 5 .any (Rows.councilNilSpec.pre6 enc Try.prog Try.f5 Rows.councilNilRow.domain false) (Rows.councilNilSpec.post enc Try.prog Try.f5 false true false false) := by
  refine returnsInHanded_of_change_sized (C := Try.checked) councilNil_own started (by kernel_rfl) Try.func5
    (ChangeSpec.witness6 (enc := enc) (C := Try.checked) false ⟨#[], #[.agg #[.int .i64 0, .int .i64 0, .int .i64 0, .int .i64 0], .string ByteArray.empty], []⟩ 8 (by kernel_rfl) (by kernel_rfl) (by kernel_rfl) (by kernel_rfl)) ?_
  intro W base args ds gs before hval0 hW hcnd hsz _
  have hval : ∀ (j : Nat) t v, Try.f5.params[j]? = some t → args[j]? = some v → Value.okWide Try.prog W .any base t v := hval0
  have hW' := hW
  obtain ⟨p, q, hA0, hV, rfl, hfz, hnd⟩ := hW
  have hA : DataW.TrodAll enc Try.prog W 0 (fun _ => true) true Try.f5.params.toList args.toList ds p := hA0
  rw [Try.params5] at hA hval
  obtain ⟨v0, vs0, d0, ds0, p0, q0, hargs, rfl, rfl, h0, tl0⟩ := trodAll_cons hA
  obtain ⟨v1, vs1, d1, ds1, p1, q1, rfl, rfl, rfl, h1, tl1⟩ := trodAll_cons tl0
  obtain ⟨rfl, rfl, rfl⟩ := trodAll_nil tl1
  obtain rfl : args = #[v0, v1] := by cases args; simp_all
  obtain ⟨rfl, rfl⟩ := trodVars_none hV
  have k0 := h0
  have lt0 : ∀ x ∈ p0, x.block < W.heap.size := by obtain ⟨m, hm⟩ := k0; exact DataW.trod_lt m _ _ _ hm
  have hz0 : Wz Try.prog 37 d0 := fun m hm => of_decide_eq_true (List.all_eq_true.1 hsz m (DataW.weights_mem_each (j := 0) (t := 37) rfl rfl m hm))
  obtain ⟨x0, cx0, g0⟩ := (let ⟨_, hf⟩ := k0; (Vw.struct (s := 4) Try.underlying37 (by kernel_rfl) (by kernel_rfl) (Vf.cons (s := 1) (Vw.i64 Try.underlying3) rfl (by kernel_rfl) (Vf.cons (s := 1) (Vw.i64 Try.underlying3) rfl (by kernel_rfl) (Vf.cons (s := 1) (Vw.i64 Try.underlying3) rfl (by kernel_rfl) (Vf.cons (s := 1) (Vw.i64 Try.underlying3) rfl (by kernel_rfl) Vf.nil))))).view _ _ _ _ hf hz0)
  obtain ⟨aa0, rfl⟩ := okWide_agg (.inl ⟨_, Try.underlying37⟩) (hval 0 37 v0 rfl rfl)
  obtain rfl := agg_cells cx0
  obtain ⟨a1, rfl, rfl, rfl, w1⟩ := open_string Try.underlying9 (hval 1 9 v1 rfl rfl) h1
  have z1 : a1.size ≤ 140737488351232 := sized_string hsz (j := 1) (t := 9) rfl rfl
  first | clear hA0 hval0 | skip
  clear hsz
  refine ((law_cnil).run W (Own.start W)).mono fun e W' hE => ?_
  obtain ⟨_, _, he, hO⟩ := hE
  have bel := hO.below
  subst he
  exact ⟨_, rfl, _, _, _, [], _, [], hW', trodAll_mk1 (shut_bool Try.underlying4 _), (trodAll_cons_mk (Below.trod councilNil_laidOut (by kernel_rfl) (of_decide_eq_true (by kernel_rfl)) k0 bel lt0) (trodAll_cons_mk (shut_string Try.underlying9 w1) trodAll_mk0)), rfl, bel.frame _, fun h => by cases h⟩
theorem councilNil_holds : Rows.CouncilNilSaid :=
  OpenClaim.holds_of_wide 5 Try.f5 rfl rfl rfl rfl rfl rfl rfl ⟨rfl, rfl, rfl, rfl, rfl⟩ rfl rfl rfl rfl rfl (by kernel_rfl) Try.func5 (by kernel_rfl)
    (of_decide_eq_true (by kernel_rfl)) (by unfold Func.isWrapper; first | (rw [if_pos (by decide +kernel)]; kernel_rfl) | (rw [if_neg (by decide +kernel)]; exact ⟨rfl, rfl⟩))
    (fun os started H enc _ => councilNil_lifted os started H enc)
#print axioms councilNil_holds
end Go.Proofs.Ytigjompojlhomaa
