/-
  The statement of DiskSafe: whatever the input the law answers true, and its arguments read behind the call as before.
-/
import Derived.Test.YtijbgeboaakmmaaRows
import Derived.Test.YtijbgeboaakmmaaDiskLawC
import Derived.Test.YtijbgeboaakmmaaSlRow
import Derived.Test.YtijbgeboaakmmaaSlView
namespace Go.Proofs.Ytijbgeboaakmmaa
open Go.ChangeShapes Go.WideShapes Go.ChangeAt Go.RowKit Go.Sl
open Go.ChangeMaps (open_string shut_string)
set_option linter.unusedVariables false
theorem diskSafe_own : ownKnob Try.prog.godebug = none := by kernel_rfl
theorem diskSafe_laidOut : laidOutB Try.prog = true := by kernel_rfl
set_option maxRecDepth 100000 in
theorem diskSafe_lifted (os : Os) (started : os.Started) (H : Type) (enc : TypeId × Value → H) :
    ReturnsInHanded {} Try.checked os 3 .any (Rows.diskSafeSpec.pre6 enc Try.prog Try.f3 Rows.diskSafeRow.domain false) (Rows.diskSafeSpec.post enc Try.prog Try.f3 false true false false) := by
  refine returnsInHanded_of_change (C := Try.checked) diskSafe_own started (by kernel_rfl) Try.func3
    (ChangeSpec.witness6 (enc := enc) (C := Try.checked) false ⟨#[], #[.slice none 0 0, .slice none 0 0, .slice none 0 0], []⟩ 8 (by kernel_rfl) (by kernel_rfl) (by kernel_rfl) (by kernel_rfl)) ?_
  intro W base args ds gs before hval0 hW hcnd _
  have hval : ∀ (j : Nat) t v, Try.f3.params[j]? = some t → args[j]? = some v → Value.okWide Try.prog W .any base t v := hval0
  have hW' := hW
  obtain ⟨p, q, hA0, hV, rfl, hfz, hnd⟩ := hW
  have hA : DataW.TrodAll enc Try.prog W 0 (fun _ => true) true Try.f3.params.toList args.toList ds p := hA0
  rw [Try.params3] at hA hval
  obtain ⟨v0, vs0, d0, ds0, p0, q0, hargs, rfl, rfl, h0, tl0⟩ := trodAll_cons hA
  obtain ⟨v1, vs1, d1, ds1, p1, q1, rfl, rfl, rfl, h1, tl1⟩ := trodAll_cons tl0
  obtain ⟨v2, vs2, d2, ds2, p2, q2, rfl, rfl, rfl, h2, tl2⟩ := trodAll_cons tl1
  obtain ⟨rfl, rfl, rfl⟩ := trodAll_nil tl2
  obtain rfl : args = #[v0, v1, v2] := by cases args; simp_all
  obtain ⟨rfl, rfl⟩ := trodVars_none hV
  have k0 := h0
  have lt0 : ∀ x ∈ p0, x.block < W.heap.size := by obtain ⟨m, hm⟩ := k0; exact DataW.trod_lt m _ _ _ hm
  obtain ⟨x0, cx0, g0⟩ := (let ⟨_, hf⟩ := k0; (Vw.bsslice Try.underlying22 (Vw.bslice Try.underlying27 Try.underlying5 (by kernel_rfl)) (by kernel_rfl)).view _ _ _ _ hf)
  obtain ⟨aa0, ll0, cc0, rfl⟩ := okWide_slice Try.underlying22 (hval 0 22 v0 rfl rfl)
  have ex0 := slice_cells cx0
  obtain ⟨rfl, rfl, rfl⟩ : aa0 = x0.base ∧ ll0 = x0.xs.length ∧ cc0 = x0.cap := by simpa using ex0
  have k1 := h1
  have lt1 : ∀ x ∈ p1, x.block < W.heap.size := by obtain ⟨m, hm⟩ := k1; exact DataW.trod_lt m _ _ _ hm
  obtain ⟨x1, cx1, g1⟩ := (let ⟨_, hf⟩ := k1; (Vw.blslice Try.underlying23 Try.underlying4 (by kernel_rfl)).view _ _ _ _ hf)
  obtain ⟨aa1, ll1, cc1, rfl⟩ := okWide_slice Try.underlying23 (hval 1 23 v1 rfl rfl)
  have ex1 := slice_cells cx1
  obtain ⟨rfl, rfl, rfl⟩ : aa1 = x1.base ∧ ll1 = x1.xs.length ∧ cc1 = x1.cap := by simpa using ex1
  obtain ⟨a2, len2, cap2, rfl⟩ := okWide_slice Try.underlying24 (hval 2 24 v2 rfl rfl)
  have k2 := h2
  have lt2 : ∀ x ∈ p2, x.block < W.heap.size := by obtain ⟨m, hm⟩ := k2; exact DataW.trod_lt m _ _ _ hm
  obtain ⟨z2, w2⟩ : ∃ zs, IsRow .i64 W a2 len2 cap2 zs := by
    obtain ⟨fuel, hf⟩ := h2
    rcases open_ints Try.underlying24 Try.underlying3 (by kernel_rfl) hf with ⟨hcs, _⟩ | ⟨x, l, c, zs, hcs, _, hl, hm, hz, _, hcell, hwz⟩
    · simp [Value.cells] at hcs
      obtain ⟨rfl, rfl, rfl⟩ := hcs
      exact ⟨[], .inl ⟨rfl, rfl, rfl, rfl⟩⟩
    · simp [Value.cells] at hcs
      obtain ⟨rfl, rfl, rfl⟩ := hcs
      exact ⟨zs, .inr ⟨_, rfl, hl, hm, by simpa using hz, hcell, hwz⟩⟩
  have lc2 : len2 ≤ cap2 := by rcases w2 with ⟨_, h, h2, _⟩ | ⟨_, _, h, _⟩ <;> omega
  obtain ⟨xs2, rfl, r2, b2⟩ := ints_of_row w2
  clear hA0 hval0
  refine ((walk_safe g0.2.2.1 g0.2.2.2 g1.2.2 r2 b2).run W (Own.start W)).mono fun e W' hE => ?_
  obtain ⟨_, _, he, hO⟩ := hE
  have bel := hO.below
  subst he
  exact ⟨_, rfl, _, _, _, [], _, [], hW', trodAll_mk1 (shut_bool Try.underlying4 _), (trodAll_cons_mk (Below.trod diskSafe_laidOut (by kernel_rfl) (of_decide_eq_true (by kernel_rfl)) k0 bel lt0) (trodAll_cons_mk (Below.trod diskSafe_laidOut (by kernel_rfl) (of_decide_eq_true (by kernel_rfl)) k1 bel lt1) (trodAll_cons_mk (Below.trod diskSafe_laidOut (by kernel_rfl) (of_decide_eq_true (by kernel_rfl)) k2 bel lt2) trodAll_mk0))), rfl, bel.frame _, fun h => by cases h⟩
theorem diskSafe_holds : Rows.DiskSafeSaid :=
  OpenClaim.holds_of_wide 3 Try.f3 rfl rfl rfl rfl rfl rfl rfl ⟨rfl, rfl, rfl, rfl, rfl⟩ rfl rfl rfl rfl rfl (by kernel_rfl) Try.func3 (by kernel_rfl)
    (of_decide_eq_true (by kernel_rfl)) (by unfold Func.isWrapper; first | (rw [if_pos (by decide +kernel)]; kernel_rfl) | (rw [if_neg (by decide +kernel)]; exact ⟨rfl, rfl⟩))
    (fun os started H enc _ => diskSafe_lifted os started H enc)
#print axioms diskSafe_holds
end Go.Proofs.Ytijbgeboaakmmaa
