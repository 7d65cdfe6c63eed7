/-
  The statement of VaultApart: whatever the input the law answers true, and its arguments read behind the call as before.
-/
import Derived.Test.YthljpljbpbkkcaaDoorRows
import Derived.Test.YthljpljbpbkkcaaDoorVaultApart
import Derived.Test.YthljpljbpbkkcaaDoorSlRow
import Derived.Test.YthljpljbpbkkcaaDoorSlView
import Derived.Test.YthljpljbpbkkcaaDoorTie
import Derived.Test.YthljpljbpbkkcaaDoorCards
import Derived.ProofKit
import Derived.LaidMore
import Derived.OpenShut
import Derived.Stop.Joined
import Derived.Stop.LaidErr
import Derived.Lib.LaidTab
import Derived.SevenTiedAt
import Derived.MakeChecks
import Derived.Lay
namespace Go.Proofs.YthljpljbpbkkcaaDoor
open Go.ChangeShapes Go.WideShapes Go.ChangeAt Go.RowKit Go.Sl
open Go.ChangeMaps (open_string shut_string)
set_option linter.unusedVariables false
theorem vaultApart_own : ownKnob Tryd.prog.godebug = none := by kernel_rfl
theorem vaultApart_laidOut : laidOutB Tryd.prog = true := by kernel_rfl
abbrev vaultApart_laid : List (String × DataW Unit) := [("unicode/utf8.acceptRanges", Rows.laid_unicode_utf8_acceptRanges), ("unicode/utf8.first", Rows.laid_unicode_utf8_first)]
set_option maxRecDepth 100000 in
theorem vaultApart_lifted (os : Os) (started : os.Started) (H : Type) (enc : TypeId × Value → H) :
    ReturnsInHanded {} Tryd.checked os 5 .any (fun w args => (Rows.vaultApartSpec.pre enc Tryd.prog Tryd.f5 [] false w args ∧ laidMetH Tryd.prog vaultApart_laid w) ∧ sizedMet enc Tryd.prog Tryd.f5 (OpenSpec.ofChange Rows.vaultApartSpec) false w args) (Rows.vaultApartSpec.post enc Tryd.prog Tryd.f5 false true false false) := by
  refine returnsInHanded_of_change_and (C := Tryd.checked) (X := fun w _ => laidMetH Tryd.prog vaultApart_laid w) (fun _ _ _ hh h => h.of_heap hh) vaultApart_own started (by kernel_rfl) Tryd.func5
    (ChangeSpec.witness_shaped (enc := enc) (C := Tryd.checked) (os := os) (X := fun w _ => laidMetH Tryd.prog vaultApart_laid w) false (World.laidAll Tryd.prog os vaultApart_laid) #[.slice none 0 0, .int .i64 0, .agg #[.int .i64 0, .int .i64 0], .slice none 0 0] 8 (World.laidAll_os _ _ _) (World.shaped_of_ZipB (by kernel_rfl) (by kernel_rfl)) (by kernel_rfl) (by kernel_rfl) (by kernel_rfl) (by rw [MakeChecks.laidMetH_plain _ _ _ (by kernel_rfl)]; exact laidMet_laidAll _ (by kernel_rfl) (by kernel_rfl))) ?_
  intro W base args ds gs before hval0 hW hcnd hsz hL _
  have hval : ∀ (j : Nat) t v, Tryd.f5.params[j]? = some t → args[j]? = some v → Value.okWide Tryd.prog W .any base t v := hval0
  have hW' := hW
  obtain ⟨p, q, hA0, hV, rfl, hfz, hnd⟩ := hW
  have hA : DataW.TrodAll enc Tryd.prog W 0 (fun _ => true) true Tryd.f5.params.toList args.toList ds p := hA0
  rw [Tryd.params5] at hA hval
  obtain ⟨v0, vs0, d0, ds0, p0, q0, hargs, rfl, rfl, h0, tl0⟩ := trodAll_cons hA
  obtain ⟨v1, vs1, d1, ds1, p1, q1, rfl, rfl, rfl, h1, tl1⟩ := trodAll_cons tl0
  obtain ⟨v2, vs2, d2, ds2, p2, q2, rfl, rfl, rfl, h2, tl2⟩ := trodAll_cons tl1
  obtain ⟨v3, vs3, d3, ds3, p3, q3, rfl, rfl, rfl, h3, tl3⟩ := trodAll_cons tl2
  obtain ⟨rfl, rfl, rfl⟩ := trodAll_nil tl3
  obtain rfl : args = #[v0, v1, v2, v3] := by cases args; simp_all
  obtain ⟨rfl, rfl⟩ := trodVars_none hV
  have k0 := h0
  have lt0 : ∀ x ∈ p0, x.block < W.heap.size := by obtain ⟨m, hm⟩ := k0; exact DataW.trod_lt m _ _ _ hm
  have hz0 : Wz Tryd.prog 22 d0 := fun m hm => of_decide_eq_true (List.all_eq_true.1 hsz m (DataW.weights_mem_each (j := 0) (t := 22) rfl rfl m hm))
  obtain ⟨x0, cx0, g0⟩ := (let ⟨_, hf⟩ := k0; (Vw.slice (s := 7) Tryd.underlying22 (by kernel_rfl) (Vw.struct (s := 7) Tryd.underlying36 (by kernel_rfl) (by kernel_rfl) (Vf.cons (s := 1) (Vw.i64 Tryd.underlying3) rfl (by kernel_rfl) (Vf.cons (s := 1) (Vw.i64 Tryd.underlying3) rfl (by kernel_rfl) (Vf.cons (s := 1) (Vw.i64 Tryd.underlying3) rfl (by kernel_rfl) (Vf.cons (s := 1) (Vw.string Tryd.underlying9) rfl (by kernel_rfl) (Vf.cons (s := 2) (Vw.struct (s := 2) Tryd.underlying24 (by kernel_rfl) (by kernel_rfl) (Vf.cons (s := 1) (Vw.i64 Tryd.underlying3) rfl (by kernel_rfl) (Vf.cons (s := 1) (Vw.i64 Tryd.underlying3) rfl (by kernel_rfl) Vf.nil))) rfl (by kernel_rfl) (Vf.cons (s := 1) (Vw.bslice Tryd.underlying25 Tryd.underlying5 (by kernel_rfl)) rfl (by kernel_rfl) Vf.nil)))))))).view _ _ _ _ hf hz0)
  obtain ⟨aa0, ll0, cc0, rfl⟩ := okWide_slice Tryd.underlying22 (hval 0 22 v0 rfl rfl)
  have ex0 := slice_cells cx0
  obtain ⟨rfl, rfl, rfl⟩ : aa0 = x0.base ∧ ll0 = x0.xs.length ∧ cc0 = x0.cap := by simpa using ex0
  obtain ⟨a1, rfl, rfl, rfl, w1⟩ := open_int Tryd.underlying3 (hval 1 3 v1 rfl rfl) h1
  have b1 := i64_of_wf w1
  have k2 := h2
  have lt2 : ∀ x ∈ p2, x.block < W.heap.size := by obtain ⟨m, hm⟩ := k2; exact DataW.trod_lt m _ _ _ hm
  have hz2 : Wz Tryd.prog 24 d2 := fun m hm => of_decide_eq_true (List.all_eq_true.1 hsz m (DataW.weights_mem_each (j := 2) (t := 24) rfl rfl m hm))
  obtain ⟨x2, cx2, g2⟩ := (let ⟨_, hf⟩ := k2; (Vw.struct (s := 2) Tryd.underlying24 (by kernel_rfl) (by kernel_rfl) (Vf.cons (s := 1) (Vw.i64 Tryd.underlying3) rfl (by kernel_rfl) (Vf.cons (s := 1) (Vw.i64 Tryd.underlying3) rfl (by kernel_rfl) Vf.nil))).view _ _ _ _ hf hz2)
  obtain ⟨aa2, rfl⟩ := okWide_agg (.inl ⟨_, Tryd.underlying24⟩) (hval 2 24 v2 rfl rfl)
  obtain rfl := agg_cells cx2
  obtain ⟨a3, len3, cap3, rfl⟩ := okWide_slice Tryd.underlying25 (hval 3 25 v3 rfl rfl)
  have k3 := h3
  have lt3 : ∀ x ∈ p3, x.block < W.heap.size := by obtain ⟨m, hm⟩ := k3; exact DataW.trod_lt m _ _ _ hm
  obtain ⟨z3, w3⟩ : ∃ zs, IsRow .u8 W a3 len3 cap3 zs := by
    obtain ⟨fuel, hf⟩ := h3
    rcases open_ints Tryd.underlying25 Tryd.underlying5 (by kernel_rfl) hf with ⟨hcs, _⟩ | ⟨x, l, c, zs, hcs, _, hl, hm, hz, _, hcell, hwz⟩
    · simp [Value.cells] at hcs
      obtain ⟨rfl, rfl, rfl⟩ := hcs
      exact ⟨[], .inl ⟨rfl, rfl, rfl, rfl⟩⟩
    · simp [Value.cells] at hcs
      obtain ⟨rfl, rfl, rfl⟩ := hcs
      exact ⟨zs, .inr ⟨_, rfl, hl, hm, by simpa using hz, hcell, hwz⟩⟩
  have lc3 : len3 ≤ cap3 := by rcases w3 with ⟨_, h, h2, _⟩ | ⟨_, _, h, _⟩ <;> omega
  obtain ⟨bs3, rfl, r3⟩ := bytes_of_row w3
  first | clear hA0 hval0 | skip
  clear hsz
  refine ((law_apart (pk := x2.1) (pn := x2.2.1) (b := ⟨a3, bs3, cap3⟩) g0.2.2.1 (fun a h => ⟨⟨(g0.2.2.2 a h).1.2.2.2.1, (g0.2.2.2 a h).1.2.1, (g0.2.2.2 a h).1.2.2.2.2.1.1, (g0.2.2.2 a h).1.2.2.2.2.1.2.1⟩, (g0.2.2.2 a h).1.2.2.2.2.2.1.2.2⟩) r3 ⟨show nmA.size ≤ 140737488351232 by decide, b1, g2.1, g2.2.1⟩).run W (Own.start W)).mono fun e W' hE => ?_
  obtain ⟨_, _, he, hO⟩ := hE
  have bel := hO.below
  subst he
  exact ⟨_, rfl, _, _, _, [], _, [], hW', trodAll_mk1 (shut_bool Tryd.underlying4 _), (trodAll_cons_mk (Below.trod vaultApart_laidOut (by kernel_rfl) (of_decide_eq_true (by kernel_rfl)) k0 bel lt0) (trodAll_cons_mk (shut_int Tryd.underlying3 w1) (trodAll_cons_mk (Below.trod vaultApart_laidOut (by kernel_rfl) (of_decide_eq_true (by kernel_rfl)) k2 bel lt2) (trodAll_cons_mk (Below.trod vaultApart_laidOut (by kernel_rfl) (of_decide_eq_true (by kernel_rfl)) k3 bel lt3) trodAll_mk0)))), rfl, bel.frame _, fun h => by cases h⟩
theorem vaultApart_row : Rows.VaultApartSaid :=
  OpenClaim.holds_of_wide 5 Tryd.f5 rfl rfl rfl rfl rfl rfl rfl ⟨rfl, rfl, rfl, rfl, rfl⟩ rfl rfl rfl rfl rfl (by kernel_rfl) Tryd.func5 (by kernel_rfl)
    (of_decide_eq_true (by kernel_rfl)) (by unfold Func.isWrapper; first | (rw [if_pos (by decide +kernel)]; kernel_rfl) | (rw [if_neg (by decide +kernel)]; exact ⟨rfl, rfl⟩))
    (fun os started H enc _ => vaultApart_lifted os started H enc)
set_option maxRecDepth 100000 in
theorem vaultApart_holds : Rows.VaultApartCardSaid :=
  Claim7.holds_tied_plain_at .later [] [.data, .pinned] true (true, "df198a8ba6e19278d8af0c8c5892d817f85d3f438e7e7b83d06e73f3ba2cb6f0") false
    vaultApart_row (fun _ h => by cases h) (by kernel_rfl) (fun _ h => by cases h) vaultApart_row_tie rfl ⟨rfl, rfl⟩ (by kernel_rfl) rfl
    (fun f fn hf hfn => by
      obtain rfl : f = 5 := Option.some.inj ((show Tryd.prog.funcNamed "watershed/watershedlaw16.VaultApart" = some 5 by kernel_rfl).symm.trans hf) |>.symm
      obtain rfl : fn = Tryd.f5 := (Option.some.inj (Tryd.func5.symm.trans hfn)).symm
      exact ⟨by kernel_rfl, fun j t ht => by
        rw [Tryd.params5] at ht
        have hm : t ∈ [22, 3, 24, 25] := by simpa using Array.mem_of_getElem? ht
        have hall : ([22, 3, 24, 25].all fun u => !Tryd.prog.wantsStandIn u) = true := by kernel_rfl
        exact (show Tryd.prog.wantsStandIn t = false by simpa using List.all_eq_true.1 hall t hm)⟩)
    (by kernel_rfl)
#print axioms vaultApart_holds
end Go.Proofs.YthljpljbpbkkcaaDoor
