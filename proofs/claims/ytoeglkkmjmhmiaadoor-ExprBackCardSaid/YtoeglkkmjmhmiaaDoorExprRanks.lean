/-
  Layer 4: which operator binds more: the law about ranks.
-/
import Derived.Test.YtoeglkkmjmhmiaaDoorExprRefA
set_option linter.unusedVariables false
set_option linter.unusedSimpArgs false
set_option maxRecDepth 4000
namespace Go.Proofs.YtoeglkkmjmhmiaaDoor
open Go.Sl Go.RowKit Go.Expr Go.Shelf

def allBo : List Bo := [.or_, .and_, .eq_, .ne_, .le_, .ge_, .lt_, .gt_, .add_, .sub_, .mul_, .div_, .rem_]
def boAt (k : Nat) : Bo := allBo.getD k .or_
abbrev opsV : List Value := [.string (ByteArray.mk #[124, 124]), .string (ByteArray.mk #[38, 38]), .string (ByteArray.mk #[61, 61]), .string (ByteArray.mk #[33, 61]), .string (ByteArray.mk #[60, 61]), .string (ByteArray.mk #[62, 61]), .string (ByteArray.mk #[60]), .string (ByteArray.mk #[62]), .string (ByteArray.mk #[43]), .string (ByteArray.mk #[45]), .string (ByteArray.mk #[42]), .string (ByteArray.mk #[47]), .string (ByteArray.mk #[37])]
abbrev rankV : List Value := [.int .i64 1, .int .i64 2, .int .i64 3, .int .i64 3, .int .i64 3, .int .i64 3, .int .i64 3, .int .i64 3, .int .i64 4, .int .i64 4, .int .i64 5, .int .i64 5, .int .i64 5]
theorem opsV_at : ∀ {k : Nat}, k < 13 → opsV[k]? = some (.string (bs (boAt k).bytes)) := by
  intro k h
  match k, h with
  | 0, _ | 1, _ | 2, _ | 3, _ | 4, _ | 5, _ | 6, _ | 7, _ | 8, _ | 9, _ | 10, _ | 11, _ | 12, _ => rfl
theorem rankV_at : ∀ {k : Nat}, k < 13 → rankV[k]? = some (.int .i64 ((boAt k).rank : Nat)) := by
  intro k h
  match k, h with
  | 0, _ | 1, _ | 2, _ | 3, _ | 4, _ | 5, _ | 6, _ | 7, _ | 8, _ | 9, _ | 10, _ | 11, _ | 12, _ => rfl
def nnI (a : Int) : Int := if a < 0 then -(a + 1) else a
def ixI (a : Int) : Nat := (nnI a % 13).toNat
theorem nnI_pos (a : Int) : 0 ≤ nnI a := by unfold nnI; split <;> omega
theorem ixI_lt (a : Int) : ixI a < 13 := by unfold ixI; have := nnI_pos a; omega
theorem ixI_rem (a : Int) : (nnI a).tmod 13 = (ixI a : Nat) := by
  have h := nnI_pos a
  rw [Int.tmod_eq_emod_of_nonneg h]
  unfold ixI
  omega
theorem wrap_id {a : Int} (h : I64 a) : IntKind.i64.wrap a = a := by
  have e : IntKind.i64.wrap a = if a % 18446744073709551616 ≥ 9223372036854775808 then a % 18446744073709551616 - 18446744073709551616 else a % 18446744073709551616 := by
    simp [IntKind.wrap, IntKind.signed, IntKind.bits]
  obtain ⟨h1, h2⟩ := h
  rw [e]
  split <;> omega
theorem wrap_neg {a : Int} (h : I64 a) (h1 : a < 0) : IntKind.i64.wrap (0 - (a + 1)) = nnI a := by
  obtain ⟨h2, h3⟩ := h
  unfold nnI
  rw [if_pos h1, wrap_id ⟨by omega, by omega⟩]
  omega
def rkS (a b : Bo) : List UInt8 := [110, 32] ++ a.bytes ++ [32, 116, 32] ++ b.bytes ++ [32, 118]
def rkT (a b : Bo) : Tr := if a.rank < b.rank then .bn a (.nm 110) (.bn b (.nm 116) (.nm 118)) else .bn b (.bn a (.nm 110) (.nm 116)) (.nm 118)
theorem rk_parse (a b : Bo) : parseS (rkS a b) = .ok (rkT a b) := by
  cases a <;> cases b <;> kernel_rfl
theorem rk_sm (a b : Bo) : Sm (rkT a b) := by
  unfold rkT
  split
  · exact ⟨.inl rfl, .inr (.inl rfl), .inr (.inr rfl)⟩
  · exact ⟨⟨.inl rfl, .inr (.inl rfl)⟩, .inr (.inr rfl)⟩
theorem rk_size (a b : Bo) : Expr.sizeT (rkT a b) = 5 := by unfold rkT; split <;> rfl
theorem rk_txt1 {a b : Bo} (h : a.rank < b.rank) : ByteArray.mk #[40, 110, 32] ++ bs a.bytes ++ ByteArray.mk #[32, 40, 116, 32] ++ bs b.bytes ++ ByteArray.mk #[32, 118, 41, 41] = bs (txt (rkT a b)) := by
  rw [show ByteArray.mk #[40, 110, 32] = bs [40, 110, 32] from rfl, show ByteArray.mk #[32, 40, 116, 32] = bs [32, 40, 116, 32] from rfl, show ByteArray.mk #[32, 118, 41, 41] = bs [32, 118, 41, 41] from rfl]
  simp only [bs_app]
  unfold rkT
  rw [if_pos h]
  simp [txt]
theorem rk_txt2 {a b : Bo} (h : ¬ a.rank < b.rank) : ByteArray.mk #[40, 40, 110, 32] ++ bs a.bytes ++ ByteArray.mk #[32, 116, 41, 32] ++ bs b.bytes ++ ByteArray.mk #[32, 118, 41] = bs (txt (rkT a b)) := by
  rw [show ByteArray.mk #[40, 40, 110, 32] = bs [40, 40, 110, 32] from rfl, show ByteArray.mk #[32, 116, 41, 32] = bs [32, 116, 41, 32] from rfl, show ByteArray.mk #[32, 118, 41] = bs [32, 118, 41] from rfl]
  simp only [bs_app]
  unfold rkT
  rw [if_neg h]
  simp [txt]
theorem rk_src (a b : Bo) : ByteArray.mk #[110, 32] ++ bs a.bytes ++ ByteArray.mk #[32, 116, 32] ++ bs b.bytes ++ ByteArray.mk #[32, 118] = bs (rkS a b) := by
  rw [show ByteArray.mk #[110, 32] = bs [110, 32] from rfl, show ByteArray.mk #[32, 116, 32] = bs [32, 116, 32] from rfl, show ByteArray.mk #[32, 118] = bs [32, 118] from rfl]
  simp only [bs_app]
  rfl
theorem rk_ev1 {a b : Bo} {n t v : Int} (h : a.rank < b.rank) : twoI a n (twoI b t v) = evalI n t v (rkT a b) := by unfold rkT; rw [if_pos h]; rfl
theorem rk_ev2 {a b : Bo} {n t v : Int} (h : ¬ a.rank < b.rank) : twoI b (twoI a n t) v = evalI n t v (rkT a b) := by unfold rkT; rw [if_neg h]; rfl
theorem mk2_size {a b : UInt8} : (ByteArray.mk #[a, b]).size = 2 := rfl
theorem mk3_size {a b c : UInt8} : (ByteArray.mk #[a, b, c]).size = 3 := rfl
theorem mk4_size {a b c d : UInt8} : (ByteArray.mk #[a, b, c, d]).size = 4 := rfl
theorem law_ranks {w0 : World} {A : List HProp} {one two n t v : Int} (htb : TabW w0) (h1o : I64 one) (h2o : I64 two) (hn : I64 n) (ht : I64 t) (hv : I64 v) : Fun Tryd.prog w0 8 [.int .i64 one, .int .i64 two, .int .i64 n, .int .i64 t, .int .i64 v] A (Ret w0 (fun _ : Unit => True) (fun _ => .bool true) (fun _ => A)) := by
  obtain ⟨ka, hka⟩ : ∃ k, k = ixI one := ⟨_, rfl⟩
  obtain ⟨kb, hkb⟩ : ∃ k, k = ixI two := ⟨_, rfl⟩
  have hka13 : ka < 13 := hka ▸ ixI_lt one
  have hkb13 : kb < 13 := hkb ▸ ixI_lt two
  obtain ⟨a, ha⟩ : ∃ a, a = boAt ka := ⟨_, rfl⟩
  obtain ⟨b, hb⟩ : ∃ b, b = boAt kb := ⟨_, rfl⟩
  have hal := bo_len a
  have hbl := bo_len b
  refine Fun.enter Tryd.func8 rfl Tryd.ntmps8 rfl ?_
  refine WC.seq <| WC.region <| sv (vaB rfl) <| WL.nil <| WX.thenN <| WC.seq <| WC.region <| bsl_core [(.string (ByteArray.mk #[124, 124])), (.string (ByteArray.mk #[38, 38])), (.string (ByteArray.mk #[61, 61])), (.string (ByteArray.mk #[33, 61])), (.string (ByteArray.mk #[60, 61])), (.string (ByteArray.mk #[62, 61])), (.string (ByteArray.mk #[60])), (.string (ByteArray.mk #[62])), (.string (ByteArray.mk #[43])), (.string (ByteArray.mk #[45])), (.string (ByteArray.mk #[42])), (.string (ByteArray.mk #[47])), (.string (ByteArray.mk #[37]))] Tryd.underlying35 zt9 rfl (by simp [enumP, ev]) (by simp [Value.cells]) (by simp) fun b1 => sv (vaS rfl) <| WL.nil <| WX.thenN <| WC.seq <| WC.region <| bsl_core [(.int .i64 1), (.int .i64 2), (.int .i64 3), (.int .i64 3), (.int .i64 3), (.int .i64 3), (.int .i64 3), (.int .i64 3), (.int .i64 4), (.int .i64 4), (.int .i64 5), (.int .i64 5), (.int .i64 5)] Tryd.underlying39 zt3 rfl (by simp [enumP, ev]) (by simp [Value.cells]) (by simp) fun b2 => sv (vaS rfl) <| WL.nil <| WX.thenN <| ?_
  refine WC.cutvS (ι := Unit) (fun i => [(0, .int .i64 (nnI one))]) [(1, .int _ _), (2, .int _ _), (3, .int _ _), (4, .int _ _), (11, .slice _ _ _), (12, .slice _ _ _)] (fun i => True) ⟨rfl, rfl, rfl, rfl, rfl, rfl, trivial⟩ ?_ ?_
  · -- up to the join
    refine WC.seq <| WC.region <| sv (vmI rfl) <| sv (vlt rfl rfl) <| WL.nil <| WX.thenN <| ?_
    refine WC.ite rfl (fun h1 => ?_) (fun h1 => ?_)
    · -- then
      exact WC.region <| sv (vmI rfl) <| sv (vadd rfl rfl (by omega)) <| sv (vneg rfl) <| sv (vaI rfl) <| WL.nil <| WX.mid (()) (trivial) ⟨iv (wrap_neg h1o h1), trivial⟩ ⟨rfl, rfl, rfl, rfl, rfl, rfl, trivial⟩ (fun _ h => Sb.own (by repeat' (first | with_reducible exact Sb.all | exact Sb.nil | (apply Sb.cons; focus (first | ((repeat (first | with_reducible exact Tk.here | with_reducible apply Tk.there)); done) | ((repeat (first | exact Tk.here | apply Tk.there)); done))) | apply Sb.drop)) h)
    · -- else
      exact WC.skip <| WX.mid (()) (trivial) ⟨iv (by unfold nnI; rw [if_neg h1]), trivial⟩ ⟨rfl, rfl, rfl, rfl, rfl, rfl, trivial⟩ (fun _ h => Sb.own (by repeat' (first | with_reducible exact Sb.all | exact Sb.nil | (apply Sb.cons; focus (first | ((repeat (first | with_reducible exact Tk.here | with_reducible apply Tk.there)); done) | ((repeat (first | exact Tk.here | apply Tk.there)); done))) | apply Sb.drop)) h)
  · -- behind the join
    intro _ _ ρh
    refine WC.cutvS (ι := Unit) (fun i => [(1, .int .i64 (nnI two))]) [(0, .int _ _), (2, .int _ _), (3, .int _ _), (4, .int _ _), (11, .slice _ _ _), (12, .slice _ _ _)] (fun i => True) ⟨rfl, rfl, rfl, rfl, rfl, rfl, trivial⟩ ?_ ?_
    · -- up to the join
      refine WC.seq <| WC.region <| sv (vmI rfl) <| sv (vlt rfl rfl) <| WL.nil <| WX.thenN <| ?_
      refine WC.ite rfl (fun h2 => ?_) (fun h2 => ?_)
      · -- then
        exact WC.region <| sv (vmI rfl) <| sv (vadd rfl rfl (by omega)) <| sv (vneg rfl) <| sv (vaI rfl) <| WL.nil <| WX.mid (()) (trivial) ⟨iv (wrap_neg h2o h2), trivial⟩ ⟨rfl, rfl, rfl, rfl, rfl, rfl, trivial⟩ (fun _ h => Sb.own (by repeat' (first | with_reducible exact Sb.all | exact Sb.nil | (apply Sb.cons; focus (first | ((repeat (first | with_reducible exact Tk.here | with_reducible apply Tk.there)); done) | ((repeat (first | exact Tk.here | apply Tk.there)); done))) | apply Sb.drop)) h)
      · -- else
        exact WC.skip <| WX.mid (()) (trivial) ⟨iv (by unfold nnI; rw [if_neg h2]), trivial⟩ ⟨rfl, rfl, rfl, rfl, rfl, rfl, trivial⟩ (fun _ h => Sb.own (by repeat' (first | with_reducible exact Sb.all | exact Sb.nil | (apply Sb.cons; focus (first | ((repeat (first | with_reducible exact Tk.here | with_reducible apply Tk.there)); done) | ((repeat (first | exact Tk.here | apply Tk.there)); done))) | apply Sb.drop)) h)
    · -- behind the join
      intro _ _ ρh
      refine WC.seq <| WC.region <| sv (vmI rfl) <| sv (vmS rfl) <| sv (vlen Tryd.underlying35 rfl) <| sv (vw (v' := .int .i64 (ka : Nat)) (vrem rfl rfl (by decide)) (by rw [hka]; exact congrArg _ (ixI_rem one))) <| sv (vaI rfl) <| WL.nil <| WX.thenN <| WC.seq <| WC.region <| sv (vmI rfl) <| sv (vmS rfl) <| sv (vlen Tryd.underlying35 rfl) <| sv (vw (v' := .int .i64 (kb : Nat)) (vrem rfl rfl (by decide)) (by rw [hkb]; exact congrArg _ (ixI_rem two))) <| sv (vaI rfl) <| WL.nil <| WX.thenN <| WC.seq <| WC.plan (.bar [0, 1, 2, 3, 4, 5, 6, 7, 8, 9, 10, 11] 12 (.done [13, 14, 15, 16, 17, 18, 19])) rfl (by kernel_rfl) <| WPl.barC <| dv (fun g => (vmS rfl)) <| dv (fun g => (vmI rfl)) <| dv (fun g => (vix1 Tryd.underlying35 sz9 rfl rfl (by omega) (by show (ka : Int) < 13; omega) reads (by decide))) <| dv (fun g => (vldo (base := some ⟨b1, 0, none⟩) (j := ka) (v := .string (bs a.bytes)) pl9 rfl reads (by rw [ha]; exact opsV_at hka13))) <| dv (fun g => (vcat rfl rfl (by simp only [ByteArray.size_append, bs_size, mk2_size, mk3_size, mk4_size]; omega))) <| dv (fun g => (vcat rfl rfl (by simp only [ByteArray.size_append, bs_size, mk2_size, mk3_size, mk4_size]; omega))) <| dv (fun g => (vmS rfl)) <| dv (fun g => (vmI rfl)) <| dv (fun g => (vix1 Tryd.underlying35 sz9 rfl rfl (by omega) (by show (kb : Int) < 13; omega) reads (by decide))) <| dv (fun g => (vldo (base := some ⟨b1, 0, none⟩) (j := kb) (v := .string (bs b.bytes)) pl9 rfl reads (by rw [hb]; exact opsV_at hkb13))) <| dv (fun g => (vcat rfl rfl (by simp only [ByteArray.size_append, bs_size, mk2_size, mk3_size, mk4_size]; omega))) <| dv (fun g => (vw (v' := .string (bs (rkS a b))) (vcat rfl rfl (by simp only [ByteArray.size_append, bs_size, mk2_size, mk3_size, mk4_size]; omega)) (by rw [rk_src]))) <| WD.eff rfl <| clx (by repeat' (first | with_reducible exact Sb.all | exact Sb.nil | (apply Sb.cons; focus (first | ((repeat (first | with_reducible exact Tk.here | with_reducible apply Tk.there)); done) | ((repeat (first | exact Tk.here | apply Tk.there)); done))) | apply Sb.drop)) ((show Fun Tryd.prog w0 10 [.string _] _ (POk w0 _ (rkT a b)) from ex_parse_of (R := .ok (rkT a b)) htb (rk_parse a b))) ct10 rfl fun r15 hr15 => ?_
      refine WL.nil <| WX.brT <| WPl.finC <| dv (fun g => vmv) <| dv (fun g => (vex rfl rfl)) <| dv (fun g => (vex rfl rfl)) <| dv (fun g => (vex rfl rfl)) <| dv (fun g => (vaP rfl)) <| dv (fun g => (vaI rfl)) <| dv (fun g => (vaI rfl)) <| WD.nil <| WX.thenN <| WC.seq <| ?_
      refine WC.cutS [(60, .bool false)] [(0, .int _ _), (1, .int _ _), (2, .int _ _), (3, .int _ _), (4, .int _ _), (11, .slice _ _ _), (12, .slice _ _ _), (13, .pointer _)] ⟨rfl, rfl, rfl, rfl, rfl, rfl, rfl, rfl, trivial⟩ ?_ fun ρh => ?_
      · -- more.go:22
        exact WC.region <| sv (vmP rfl) <| sv (vpeqF Tryd.underlying22 rfl rfl) <| sv (vmB rfl) <| svg rfl (vmI rfl) <| svg rfl (vF (vne rfl rfl) (by omega)) <| sv (vpkf rfl) <| WL.nil <| WX.mid () trivial ⟨rfl, trivial⟩ ⟨rfl, rfl, rfl, rfl, rfl, rfl, rfl, rfl, trivial⟩ (fun _ h => Sb.own (by repeat' (first | with_reducible exact Sb.all | exact Sb.nil | (apply Sb.cons; focus (first | ((repeat (first | with_reducible exact Tk.here | with_reducible apply Tk.there)); done) | ((repeat (first | exact Tk.here | apply Tk.there)); done))) | apply Sb.drop)) h)
      refine WC.iteb rfl (fun h3 => ?_) (fun h3 => ?_)
      · -- then
        exact absurd h3 (by decide)
      · -- else
        refine WC.skip <| WX.thenN <| WC.seq <| WC.region <| sv (vaI rfl) <| WL.nil <| WX.thenN <| WC.seq <| WC.region <| sv (vaT rfl) <| WL.nil <| WX.thenN <| ?_
        refine WC.cutvS (ι := Unit) (fun i => [(16, .int .i64 (evalI n t v (rkT a b))), (17, .string (bs (txt (rkT a b))))]) [(2, .int _ _), (3, .int _ _), (4, .int _ _), (13, .pointer _)] (fun i => True) ⟨rfl, rfl, rfl, rfl, trivial⟩ ?_ ?_
        · -- up to the join
          refine WC.seq <| WC.draws rfl (by kernel_rfl) <| qv (vmS rfl) <| qv (vmI rfl) <| qv (vix1 Tryd.underlying39 sz3 rfl rfl (by omega) (by show (kb : Int) < 13; omega) reads (by decide)) <| qv (vldo (base := some ⟨b2, 0, none⟩) (j := kb) (v := .int .i64 (b.rank : Nat)) pl3 rfl reads (by rw [hb]; exact rankV_at hkb13)) <| qv (vmS rfl) <| qv (vmI rfl) <| qv (vix1 Tryd.underlying39 sz3 rfl rfl (by omega) (by show (ka : Int) < 13; omega) reads (by decide)) <| qv (vldo (base := some ⟨b2, 0, none⟩) (j := ka) (v := .int .i64 (a.rank : Nat)) pl3 rfl reads (by rw [ha]; exact rankV_at hka13)) <| qv (vgt rfl rfl) <| WQ.nil <| WX.thenN <| ?_
          refine WC.ite rfl (fun h4 => ?_) (fun h4 => ?_)
          · -- then
            have hr : a.rank < b.rank := by omega
            exact WC.seq <| WC.draws rfl (by kernel_rfl) <| qv (vmS rfl) <| qv (vmI rfl) <| qv (vix1 Tryd.underlying35 sz9 rfl rfl (by omega) (by show (ka : Int) < 13; omega) reads (by decide)) <| qv (vldo (base := some ⟨b1, 0, none⟩) (j := ka) (v := .string (bs a.bytes)) pl9 rfl reads (by rw [ha]; exact opsV_at hka13)) <| qv (vmI rfl) <| qv (vmS rfl) <| qv (vmI rfl) <| qv (vix1 Tryd.underlying35 sz9 rfl rfl (by omega) (by show (kb : Int) < 13; omega) reads (by decide)) <| qv (vldo (base := some ⟨b1, 0, none⟩) (j := kb) (v := .string (bs b.bytes)) pl9 rfl reads (by rw [hb]; exact opsV_at hkb13)) <| qv (vmI rfl) <| qv (vmI rfl) <| qcl (Fun.quiet (ref_two)) ct19 rfl <| qcl (Fun.quiet (ref_two)) ct19 rfl <| qv (vaI rfl) <| WQ.nil <| WX.thenN <| WC.draws rfl (by kernel_rfl) <| qv (vmS rfl) <| qv (vmI rfl) <| qv (vix1 Tryd.underlying35 sz9 rfl rfl (by omega) (by show (ka : Int) < 13; omega) reads (by decide)) <| qv (vldo (base := some ⟨b1, 0, none⟩) (j := ka) (v := .string (bs a.bytes)) pl9 rfl reads (by rw [ha]; exact opsV_at hka13)) <| qv (vcat rfl rfl (by simp only [ByteArray.size_append, bs_size, mk2_size, mk3_size, mk4_size]; omega)) <| qv (vcat rfl rfl (by simp only [ByteArray.size_append, bs_size, mk2_size, mk3_size, mk4_size]; omega)) <| qv (vmS rfl) <| qv (vmI rfl) <| qv (vix1 Tryd.underlying35 sz9 rfl rfl (by omega) (by show (kb : Int) < 13; omega) reads (by decide)) <| qv (vldo (base := some ⟨b1, 0, none⟩) (j := kb) (v := .string (bs b.bytes)) pl9 rfl reads (by rw [hb]; exact opsV_at hkb13)) <| qv (vcat rfl rfl (by simp only [ByteArray.size_append, bs_size, mk2_size, mk3_size, mk4_size]; omega)) <| qv (vw (v' := .string (bs (txt (rkT a b)))) (vcat rfl rfl (by simp only [ByteArray.size_append, bs_size, mk2_size, mk3_size, mk4_size]; omega)) (by rw [rk_txt1 hr])) <| qv (vaT rfl) <| WQ.nil <| WX.mid (()) (trivial) ⟨iv (rk_ev1 hr), rfl, trivial⟩ ⟨rfl, rfl, rfl, rfl, trivial⟩ (fun _ h => Sb.own (by repeat' (first | with_reducible exact Sb.all | exact Sb.nil | (apply Sb.cons; focus (first | ((repeat (first | with_reducible exact Tk.here | with_reducible apply Tk.there)); done) | ((repeat (first | exact Tk.here | apply Tk.there)); done))) | apply Sb.drop)) h)
          · -- else
            have hr : ¬ a.rank < b.rank := by omega
            exact WC.seq <| WC.draws rfl (by kernel_rfl) <| qv (vmS rfl) <| qv (vmI rfl) <| qv (vix1 Tryd.underlying35 sz9 rfl rfl (by omega) (by show (kb : Int) < 13; omega) reads (by decide)) <| qv (vldo (base := some ⟨b1, 0, none⟩) (j := kb) (v := .string (bs b.bytes)) pl9 rfl reads (by rw [hb]; exact opsV_at hkb13)) <| qv (vmS rfl) <| qv (vmI rfl) <| qv (vix1 Tryd.underlying35 sz9 rfl rfl (by omega) (by show (ka : Int) < 13; omega) reads (by decide)) <| qv (vldo (base := some ⟨b1, 0, none⟩) (j := ka) (v := .string (bs a.bytes)) pl9 rfl reads (by rw [ha]; exact opsV_at hka13)) <| qv (vmI rfl) <| qv (vmI rfl) <| qcl (Fun.quiet (ref_two)) ct19 rfl <| qv (vmI rfl) <| qcl (Fun.quiet (ref_two)) ct19 rfl <| qv (vaI rfl) <| WQ.nil <| WX.thenN <| WC.draws rfl (by kernel_rfl) <| qv (vmS rfl) <| qv (vmI rfl) <| qv (vix1 Tryd.underlying35 sz9 rfl rfl (by omega) (by show (ka : Int) < 13; omega) reads (by decide)) <| qv (vldo (base := some ⟨b1, 0, none⟩) (j := ka) (v := .string (bs a.bytes)) pl9 rfl reads (by rw [ha]; exact opsV_at hka13)) <| qv (vcat rfl rfl (by simp only [ByteArray.size_append, bs_size, mk2_size, mk3_size, mk4_size]; omega)) <| qv (vcat rfl rfl (by simp only [ByteArray.size_append, bs_size, mk2_size, mk3_size, mk4_size]; omega)) <| qv (vmS rfl) <| qv (vmI rfl) <| qv (vix1 Tryd.underlying35 sz9 rfl rfl (by omega) (by show (kb : Int) < 13; omega) reads (by decide)) <| qv (vldo (base := some ⟨b1, 0, none⟩) (j := kb) (v := .string (bs b.bytes)) pl9 rfl reads (by rw [hb]; exact opsV_at hkb13)) <| qv (vcat rfl rfl (by simp only [ByteArray.size_append, bs_size, mk2_size, mk3_size, mk4_size]; omega)) <| qv (vw (v' := .string (bs (txt (rkT a b)))) (vcat rfl rfl (by simp only [ByteArray.size_append, bs_size, mk2_size, mk3_size, mk4_size]; omega)) (by rw [rk_txt2 hr])) <| qv (vaT rfl) <| WQ.nil <| WX.mid (()) (trivial) ⟨iv (rk_ev2 hr), rfl, trivial⟩ ⟨rfl, rfl, rfl, rfl, trivial⟩ (fun _ h => Sb.own (by repeat' (first | with_reducible exact Sb.all | exact Sb.nil | (apply Sb.cons; focus (first | ((repeat (first | with_reducible exact Tk.here | with_reducible apply Tk.there)); done) | ((repeat (first | exact Tk.here | apply Tk.there)); done))) | apply Sb.drop)) h)
        · -- behind the join
          intro _ _ ρh
          refine WC.cutS [(10, .bool true)] [] trivial ?_ fun ρh => ?_
          · -- more.go:34
            refine WC.region <| clx (by repeat' (first | with_reducible exact Sb.all | exact Sb.nil | (apply Sb.cons; focus (first | ((repeat (first | with_reducible exact Tk.here | with_reducible apply Tk.there)); done) | ((repeat (first | exact Tk.here | apply Tk.there)); done))) | apply Sb.drop)) (law_awake htb) ct12 rfl fun r49 hr49 => ?_
            refine sv (vmB rfl) <| svg rfl (vmP rfl) <| svg rfl (vmI rfl) <| svg rfl (vmI rfl) <| svg rfl (vmI rfl) <| gy rfl <| clx (by repeat' (first | with_reducible exact Sb.all | exact Sb.nil | (apply Sb.cons; focus (first | ((repeat (first | with_reducible exact Tk.here | with_reducible apply Tk.there)); done) | ((repeat (first | exact Tk.here | apply Tk.there)); done))) | apply Sb.drop)) (ex_evalx hn ht hv (hr15 ▸ rk_sm a b)) ct17 rfl fun r50 hr50 => ?_
            refine svg rfl (vmI rfl) <| svg rfl (vT (veq rfl rfl) (by rw [hr15])) <| sv (vpkt rfl) <| sv (vmB rfl) <| svg rfl (vmP rfl) <| gy rfl <| clx (by repeat' (first | with_reducible exact Sb.all | exact Sb.nil | (apply Sb.cons; focus (first | ((repeat (first | with_reducible exact Tk.here | with_reducible apply Tk.there)); done) | ((repeat (first | exact Tk.here | apply Tk.there)); done))) | apply Sb.drop)) (ex_text) ct13 rfl fun r51 hr51 => ?_
            refine svg rfl (vmT rfl) <| svg rfl (vT (veqs rfl rfl) (by rw [hr15])) <| sv (vpkt rfl) <| sv (vmB rfl) <| svg rfl (vmP rfl) <| gy rfl <| clx (by repeat' (first | with_reducible exact Sb.all | exact Sb.nil | (apply Sb.cons; focus (first | ((repeat (first | with_reducible exact Tk.here | with_reducible apply Tk.there)); done) | ((repeat (first | exact Tk.here | apply Tk.there)); done))) | apply Sb.drop)) (ex_size) ct15 rfl fun r52 hr52 => ?_
            exact svg rfl (vT (veq rfl rfl) (by rw [hr15, rk_size]; rfl)) <| sv (vpkt rfl) <| sv (vaB rfl) <| WL.nil <| WX.mid () trivial ⟨rfl, trivial⟩ trivial (fun _ h => Sb.own (by repeat' (first | with_reducible exact Sb.all | exact Sb.nil | (apply Sb.cons; focus (first | ((repeat (first | with_reducible exact Tk.here | with_reducible apply Tk.there)); done) | ((repeat (first | exact Tk.here | apply Tk.there)); done))) | apply Sb.drop)) h)
          exact WC.ret <| WX.ret1 rfl (()) (trivial) rfl (fun _ h => Sb.own (by repeat' (first | with_reducible exact Sb.all | exact Sb.nil | (apply Sb.cons; focus (first | ((repeat (first | with_reducible exact Tk.here | with_reducible apply Tk.there)); done) | ((repeat (first | exact Tk.here | apply Tk.there)); done))) | apply Sb.drop)) h)
end Go.Proofs.YtoeglkkmjmhmiaaDoor
