/-
  The statement of VaultLasts: whatever the input the law answers true, and its arguments read behind the call as before.
-/
import Derived.Test.YthljpljbpbkkcaaGreatDoorRows
import Derived.Test.YthljpljbpbkkcaaGreatDoorPb6
import Derived.Test.YthljpljbpbkkcaaGreatDoorTie
import Derived.Test.YthljpljbpbkkcaaGreatDoorCards
import Derived.ProofKit
import Derived.LaidMore
import Derived.OpenShut
import Derived.Stop.Joined
import Derived.Stop.LaidErr
import Derived.Lib.LaidTab
import Derived.SevenTiedAt
import Derived.MakeChecks
import Derived.Lay
namespace Go.Proofs.YthljpljbpbkkcaaGreatDoor
open Go.ChangeShapes Go.WideShapes Go.ChangeAt Go.RowKit Go.Sl
open Go.ChangeMaps (open_string shut_string)
set_option linter.unusedVariables false
theorem vaultLasts_own : ownKnob Tryz.prog.godebug = none := by kernel_rfl
theorem vaultLasts_laidOut : laidOutB Tryz.prog = true := by kernel_rfl
abbrev vaultLasts_laid : List (String × DataW Unit) := [("unicode/utf8.acceptRanges", Rows.laid_unicode_utf8_acceptRanges), ("unicode/utf8.first", Rows.laid_unicode_utf8_first)]
set_option maxRecDepth 100000 in
theorem vaultLasts_lifted (os : Os) (started : os.Started) (H : Type) (enc : TypeId × Value → H) :
    ReturnsInHanded {} Tryz.checked os 4 .any (fun w args => (Rows.vaultLastsSpec.pre enc Tryz.prog Tryz.f4 [] false w args ∧ laidMetH Tryz.prog vaultLasts_laid w) ∧ sizedMet enc Tryz.prog Tryz.f4 (OpenSpec.ofChange Rows.vaultLastsSpec) false w args) (Rows.vaultLastsSpec.post enc Tryz.prog Tryz.f4 false true false false) := by
  refine returnsInHanded_of_change_and (C := Tryz.checked) (X := fun w _ => laidMetH Tryz.prog vaultLasts_laid w) (fun _ _ _ hh h => h.of_heap hh) vaultLasts_own started (by kernel_rfl) Tryz.func4
    (ChangeSpec.witness_shaped (enc := enc) (C := Tryz.checked) (os := os) (X := fun w _ => laidMetH Tryz.prog vaultLasts_laid w) false (World.laidAll Tryz.prog os vaultLasts_laid) #[.slice none 0 0, .int .i64 0, .int .i64 0] 8 (World.laidAll_os _ _ _) (World.shaped_of_ZipB (by kernel_rfl) (by kernel_rfl)) (by kernel_rfl) (by kernel_rfl) (by kernel_rfl) (by rw [MakeChecks.laidMetH_plain _ _ _ (by kernel_rfl)]; exact laidMet_laidAll _ (by kernel_rfl) (by kernel_rfl))) ?_
  intro W base args ds gs before hval0 hW hcnd hsz hL _
  have hval : ∀ (j : Nat) t v, Tryz.f4.params[j]? = some t → args[j]? = some v → Value.okWide Tryz.prog W .any base t v := hval0
  have hW' := hW
  obtain ⟨p, q, hA0, hV, rfl, hfz, hnd⟩ := hW
  have hA : DataW.TrodAll enc Tryz.prog W 0 (fun _ => true) true Tryz.f4.params.toList args.toList ds p := hA0
  rw [Tryz.params4] at hA hval
  obtain ⟨v0, vs0, d0, ds0, p0, q0, hargs, rfl, rfl, h0, tl0⟩ := trodAll_cons hA
  obtain ⟨v1, vs1, d1, ds1, p1, q1, rfl, rfl, rfl, h1, tl1⟩ := trodAll_cons tl0
  obtain ⟨v2, vs2, d2, ds2, p2, q2, rfl, rfl, rfl, h2, tl2⟩ := trodAll_cons tl1
  obtain ⟨rfl, rfl, rfl⟩ := trodAll_nil tl2
  obtain rfl : args = #[v0, v1, v2] := by cases args; simp_all
  obtain ⟨rfl, rfl⟩ := trodVars_none hV
  have k0 := h0
  have lt0 : ∀ x ∈ p0, x.block < W.heap.size := by obtain ⟨m, hm⟩ := k0; exact DataW.trod_lt m _ _ _ hm
  have hz0 : Wz Tryz.prog 42 d0 := fun m hm => of_decide_eq_true (List.all_eq_true.1 hsz m (DataW.weights_mem_each (j := 0) (t := 42) rfl rfl m hm))
  obtain ⟨x0, cx0, g0⟩ := (let ⟨_, hf⟩ := k0; (Vw.slice (s := 7) Tryz.underlying42 (by kernel_rfl) (Vw.struct (s := 7) Tryz.underlying48 (by kernel_rfl) (by kernel_rfl) (Vf.cons (s := 1) (Vw.i64 Tryz.underlying3) rfl (by kernel_rfl) (Vf.cons (s := 1) (Vw.i64 Tryz.underlying3) rfl (by kernel_rfl) (Vf.cons (s := 1) (Vw.i64 Tryz.underlying3) rfl (by kernel_rfl) (Vf.cons (s := 1) (Vw.string Tryz.underlying9) rfl (by kernel_rfl) (Vf.cons (s := 2) (Vw.struct (s := 2) Tryz.underlying46 (by kernel_rfl) (by kernel_rfl) (Vf.cons (s := 1) (Vw.i64 Tryz.underlying3) rfl (by kernel_rfl) (Vf.cons (s := 1) (Vw.i64 Tryz.underlying3) rfl (by kernel_rfl) Vf.nil))) rfl (by kernel_rfl) (Vf.cons (s := 1) (Vw.bslice Tryz.underlying23 Tryz.underlying5 (by kernel_rfl)) rfl (by kernel_rfl) Vf.nil)))))))).view _ _ _ _ hf hz0)
  obtain ⟨aa0, ll0, cc0, rfl⟩ := okWide_slice Tryz.underlying42 (hval 0 42 v0 rfl rfl)
  have ex0 := slice_cells cx0
  obtain ⟨rfl, rfl, rfl⟩ : aa0 = x0.base ∧ ll0 = x0.xs.length ∧ cc0 = x0.cap := by simpa using ex0
  obtain ⟨a1, rfl, rfl, rfl, w1⟩ := open_int Tryz.underlying3 (hval 1 3 v1 rfl rfl) h1
  have b1 := i64_of_wf w1
  obtain ⟨a2, rfl, rfl, rfl, w2⟩ := open_int Tryz.underlying3 (hval 2 3 v2 rfl rfl) h2
  have b2 := i64_of_wf w2
  first | clear hA0 hval0 | skip
  clear hsz
  refine ((law_lasts16 (n := a1) (keep := a2) g0.2.2.1 (fun a h => ⟨⟨(g0.2.2.2 a h).1.2.2.2.1, (g0.2.2.2 a h).1.2.1, (g0.2.2.2 a h).1.2.2.2.2.1.1, (g0.2.2.2 a h).1.2.2.2.2.1.2.1⟩, (g0.2.2.2 a h).1.2.2.2.2.2.1.2.2⟩) b1.2).run W (Own.start W)).mono fun e W' hE => ?_
  obtain ⟨_, _, he, hO⟩ := hE
  have bel := hO.below
  subst he
  exact ⟨_, rfl, _, _, _, [], _, [], hW', trodAll_mk1 (shut_bool Tryz.underlying4 _), (trodAll_cons_mk (Below.trod vaultLasts_laidOut (by kernel_rfl) (of_decide_eq_true (by kernel_rfl)) k0 bel lt0) (trodAll_cons_mk (shut_int Tryz.underlying3 w1) (trodAll_cons_mk (shut_int Tryz.underlying3 w2) trodAll_mk0))), rfl, bel.frame _, fun h => by cases h⟩
theorem vaultLasts_row : Rows.VaultLastsSaid :=
  OpenClaim.holds_of_wide 4 Tryz.f4 rfl rfl rfl rfl rfl rfl rfl ⟨rfl, rfl, rfl, rfl, rfl⟩ rfl rfl rfl rfl rfl (by kernel_rfl) Tryz.func4 (by kernel_rfl)
    (of_decide_eq_true (by kernel_rfl)) (by unfold Func.isWrapper; first | (rw [if_pos (by decide +kernel)]; kernel_rfl) | (rw [if_neg (by decide +kernel)]; exact ⟨rfl, rfl⟩))
    (fun os started H enc _ => vaultLasts_lifted os started H enc)
set_option maxRecDepth 100000 in
theorem vaultLasts_holds : Rows.VaultLastsCardSaid :=
  Claim7.holds_tied_plain_at .later [] [.data, .pinned] true (true, "f0fb3187698fce7428f11615ee4cb277a8c0473e443be398c01c38f8cbda0a58") false
    vaultLasts_row (fun _ h => by cases h) (by kernel_rfl) (fun _ h => by cases h) vaultLasts_row_tie rfl ⟨rfl, rfl⟩ (by kernel_rfl) rfl
    (fun f fn hf hfn => by
      obtain rfl : f = 4 := Option.some.inj ((show Tryz.prog.funcNamed "watershed/watershedlaw16.VaultLasts" = some 4 by kernel_rfl).symm.trans hf) |>.symm
      obtain rfl : fn = Tryz.f4 := (Option.some.inj (Tryz.func4.symm.trans hfn)).symm
      exact ⟨by kernel_rfl, fun j t ht => by
        rw [Tryz.params4] at ht
        have hm : t ∈ [42, 3, 3] := by simpa using Array.mem_of_getElem? ht
        have hall : ([42, 3, 3].all fun u => !Tryz.prog.wantsStandIn u) = true := by kernel_rfl
        exact (show Tryz.prog.wantsStandIn t = false by simpa using List.all_eq_true.1 hall t hm)⟩)
    (by kernel_rfl)
#print axioms vaultLasts_holds
end Go.Proofs.YthljpljbpbkkcaaGreatDoor
