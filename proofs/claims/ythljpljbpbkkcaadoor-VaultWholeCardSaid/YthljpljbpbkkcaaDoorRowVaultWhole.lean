/-
  The statement of VaultWhole: whatever the input the law answers true, and its arguments read behind the call as before.
-/
import Derived.Test.YthljpljbpbkkcaaDoorRows
import Derived.Test.YthljpljbpbkkcaaDoorVaultWhole
import Derived.Test.YthljpljbpbkkcaaDoorSlRow
import Derived.Test.YthljpljbpbkkcaaDoorSlView
import Derived.Test.YthljpljbpbkkcaaDoorTie
import Derived.Test.YthljpljbpbkkcaaDoorCards
import Derived.ProofKit
import Derived.LaidMore
import Derived.OpenShut
import Derived.Stop.Joined
import Derived.Stop.LaidErr
import Derived.Lib.LaidTab
import Derived.SevenTiedAt
import Derived.MakeChecks
import Derived.Lay
namespace Go.Proofs.YthljpljbpbkkcaaDoor
open Go.ChangeShapes Go.WideShapes Go.ChangeAt Go.RowKit Go.Sl
open Go.ChangeMaps (open_string shut_string)
set_option linter.unusedVariables false
theorem vaultWhole_own : ownKnob Tryd.prog.godebug = none := by kernel_rfl
theorem vaultWhole_laidOut : laidOutB Tryd.prog = true := by kernel_rfl
abbrev vaultWhole_laid : List (String × DataW Unit) := [("unicode/utf8.acceptRanges", Rows.laid_unicode_utf8_acceptRanges), ("unicode/utf8.first", Rows.laid_unicode_utf8_first)]
set_option maxRecDepth 100000 in
theorem vaultWhole_lifted (os : Os) (started : os.Started) (H : Type) (enc : TypeId × Value → H) :
    ReturnsInHanded {} Tryd.checked os 4 .any (fun w args => (Rows.vaultWholeSpec.pre enc Tryd.prog Tryd.f4 [] false w args ∧ laidMetH Tryd.prog vaultWhole_laid w) ∧ sizedMet enc Tryd.prog Tryd.f4 (OpenSpec.ofChange Rows.vaultWholeSpec) false w args) (Rows.vaultWholeSpec.post enc Tryd.prog Tryd.f4 false true false false) := by
  refine returnsInHanded_of_change_and (C := Tryd.checked) (X := fun w _ => laidMetH Tryd.prog vaultWhole_laid w) (fun _ _ _ hh h => h.of_heap hh) vaultWhole_own started (by kernel_rfl) Tryd.func4
    (ChangeSpec.witness_shaped (enc := enc) (C := Tryd.checked) (os := os) (X := fun w _ => laidMetH Tryd.prog vaultWhole_laid w) false (World.laidAll Tryd.prog os vaultWhole_laid) #[.int .i64 0, .slice none 0 0, .int .i64 0] 8 (World.laidAll_os _ _ _) (World.shaped_of_ZipB (by kernel_rfl) (by kernel_rfl)) (by kernel_rfl) (by kernel_rfl) (by kernel_rfl) (by rw [MakeChecks.laidMetH_plain _ _ _ (by kernel_rfl)]; exact laidMet_laidAll _ (by kernel_rfl) (by kernel_rfl))) ?_
  intro W base args ds gs before hval0 hW hcnd hsz hL _
  have hval : ∀ (j : Nat) t v, Tryd.f4.params[j]? = some t → args[j]? = some v → Value.okWide Tryd.prog W .any base t v := hval0
  have hW' := hW
  obtain ⟨p, q, hA0, hV, rfl, hfz, hnd⟩ := hW
  have hA : DataW.TrodAll enc Tryd.prog W 0 (fun _ => true) true Tryd.f4.params.toList args.toList ds p := hA0
  rw [Tryd.params4] at hA hval
  obtain ⟨v0, vs0, d0, ds0, p0, q0, hargs, rfl, rfl, h0, tl0⟩ := trodAll_cons hA
  obtain ⟨v1, vs1, d1, ds1, p1, q1, rfl, rfl, rfl, h1, tl1⟩ := trodAll_cons tl0
  obtain ⟨v2, vs2, d2, ds2, p2, q2, rfl, rfl, rfl, h2, tl2⟩ := trodAll_cons tl1
  obtain ⟨rfl, rfl, rfl⟩ := trodAll_nil tl2
  obtain rfl : args = #[v0, v1, v2] := by cases args; simp_all
  obtain ⟨rfl, rfl⟩ := trodVars_none hV
  obtain ⟨a0, rfl, rfl, rfl, w0⟩ := open_int Tryd.underlying3 (hval 0 3 v0 rfl rfl) h0
  have b0 := i64_of_wf w0
  obtain ⟨a1, len1, cap1, rfl⟩ := okWide_slice Tryd.underlying41 (hval 1 41 v1 rfl rfl)
  have k1 := h1
  have lt1 : ∀ x ∈ p1, x.block < W.heap.size := by obtain ⟨m, hm⟩ := k1; exact DataW.trod_lt m _ _ _ hm
  obtain ⟨z1, w1⟩ : ∃ zs, IsRow .i64 W a1 len1 cap1 zs := by
    obtain ⟨fuel, hf⟩ := h1
    rcases open_ints Tryd.underlying41 Tryd.underlying3 (by kernel_rfl) hf with ⟨hcs, _⟩ | ⟨x, l, c, zs, hcs, _, hl, hm, hz, _, hcell, hwz⟩
    · simp [Value.cells] at hcs
      obtain ⟨rfl, rfl, rfl⟩ := hcs
      exact ⟨[], .inl ⟨rfl, rfl, rfl, rfl⟩⟩
    · simp [Value.cells] at hcs
      obtain ⟨rfl, rfl, rfl⟩ := hcs
      exact ⟨zs, .inr ⟨_, rfl, hl, hm, by simpa using hz, hcell, hwz⟩⟩
  have lc1 : len1 ≤ cap1 := by rcases w1 with ⟨_, h, h2, _⟩ | ⟨_, _, h, _⟩ <;> omega
  obtain ⟨xs1, rfl, r1, b1⟩ := ints_of_row w1
  obtain ⟨a2, rfl, rfl, rfl, w2⟩ := open_int Tryd.underlying3 (hval 2 3 v2 rfl rfl) h2
  have b2 := i64_of_wf w2
  first | clear hA0 hval0 | skip
  clear hsz
  refine ((law_whole (a := a1) (xs := xs1) (c := cap1) r1 b1).run W (Own.start W)).mono fun e W' hE => ?_
  obtain ⟨_, _, he, hO⟩ := hE
  have bel := hO.below
  subst he
  exact ⟨_, rfl, _, _, _, [], _, [], hW', trodAll_mk1 (shut_bool Tryd.underlying4 _), (trodAll_cons_mk (shut_int Tryd.underlying3 w0) (trodAll_cons_mk (Below.trod vaultWhole_laidOut (by kernel_rfl) (of_decide_eq_true (by kernel_rfl)) k1 bel lt1) (trodAll_cons_mk (shut_int Tryd.underlying3 w2) trodAll_mk0))), rfl, bel.frame _, fun h => by cases h⟩
theorem vaultWhole_row : Rows.VaultWholeSaid :=
  OpenClaim.holds_of_wide 4 Tryd.f4 rfl rfl rfl rfl rfl rfl rfl ⟨rfl, rfl, rfl, rfl, rfl⟩ rfl rfl rfl rfl rfl (by kernel_rfl) Tryd.func4 (by kernel_rfl)
    (of_decide_eq_true (by kernel_rfl)) (by unfold Func.isWrapper; first | (rw [if_pos (by decide +kernel)]; kernel_rfl) | (rw [if_neg (by decide +kernel)]; exact ⟨rfl, rfl⟩))
    (fun os started H enc _ => vaultWhole_lifted os started H enc)
set_option maxRecDepth 100000 in
theorem vaultWhole_holds : Rows.VaultWholeCardSaid :=
  Claim7.holds_tied_plain_at .later [] [.data, .pinned] true (true, "df198a8ba6e19278d8af0c8c5892d817f85d3f438e7e7b83d06e73f3ba2cb6f0") false
    vaultWhole_row (fun _ h => by cases h) (by kernel_rfl) (fun _ h => by cases h) vaultWhole_row_tie rfl ⟨rfl, rfl⟩ (by kernel_rfl) rfl
    (fun f fn hf hfn => by
      obtain rfl : f = 4 := Option.some.inj ((show Tryd.prog.funcNamed "watershed/watershedlaw16.VaultWhole" = some 4 by kernel_rfl).symm.trans hf) |>.symm
      obtain rfl : fn = Tryd.f4 := (Option.some.inj (Tryd.func4.symm.trans hfn)).symm
      exact ⟨by kernel_rfl, fun j t ht => by
        rw [Tryd.params4] at ht
        have hm : t ∈ [3, 41, 3] := by simpa using Array.mem_of_getElem? ht
        have hall : ([3, 41, 3].all fun u => !Tryd.prog.wantsStandIn u) = true := by kernel_rfl
        exact (show Tryd.prog.wantsStandIn t = false by simpa using List.all_eq_true.1 hall t hm)⟩)
    (by kernel_rfl)
#print axioms vaultWhole_holds
end Go.Proofs.YthljpljbpbkkcaaDoor
