/-
  Layer 4: the operator that waits last is done; all that binds as much is done.
-/
import Derived.Test.YtoeglkkmjmhmiaaDoorExprRefE
set_option linter.unusedVariables false
set_option linter.unusedSimpArgs false
set_option maxRecDepth 4000
namespace Go.Proofs.YtoeglkkmjmhmiaaDoor
open Go.Sl Go.RowKit Go.Expr Go.Shelf

theorem SRep.push {V V' : List Tr} {W W' : List Wt} {i : SI} {d : Nd} {t : Tr} {bL bV bW : Option Addr} {cL cV cW : Nat} {is' : List Nat} (hi : SRep V W i) (hd : NdOk i.T i.T.length d t) (hs : Stk i.T is' V') (hsum : sumT (t :: V') = sumT V + 1) (h1 : i.L.length + 1 ≤ cL) (h2 : is'.length + 1 ≤ cV) (h3 : W'.length ≤ cW) (hb : sumT V ≤ 900) :
    SRep (t :: V') W' ⟨i.L ++ [d], i.T ++ [t], i.L.length :: is', bL, cL, bV, cV, bW, cW⟩ := by
  have hl := hi.nds.len
  refine ⟨hi.nds.snoc hd, ?_, ?_, ?_, ?_, h3, ?_⟩
  · rw [hl]; exact hs.push
  · have := hi.sum; simp only [List.length_append, List.length_singleton]; omega
  · simpa using h1
  · simpa using h2
  · intro u hu
    rcases List.mem_append.1 hu with hu | hu
    · exact hi.big u hu
    · simp only [List.mem_singleton] at hu
      subst hu
      simp only [sumT] at hsum
      omega
theorem SRep.lens {V : List Tr} {W : List Wt} {i : SI} (hi : SRep V W i) : i.L.length = sumT V ∧ i.is.length = V.length ∧ V.length ≤ sumT V := ⟨hi.nds.len.trans hi.sum, hi.stk.len, len_sum V⟩
theorem rs_apply {w0 : World} {A : List HProp} {s p : Nat} {V V' : List Tr} {W W' : List Wt} (h : Ap W V W' V') (hs : sumT V + W.length ≤ 800) :
    Fun Tryd.prog w0 36 [.pointer (some ⟨s, 0, none⟩)] (rsk s p V W :: A) (Ret w0 (fun _ : Unit => True) (fun _ => .tuple #[]) (fun _ => rsk s p V' W' :: A)) := by
  refine Fun.ex (fun w h => rsk_open h) ?_
  rintro ⟨L, T, is, bL, cL, bV, cV, bW, cW⟩ hi
  obtain ⟨e1, e2, e3⟩ := hi.lens
  obtain ⟨nds, stk, sum, c1, c2, c3, big⟩ := hi
  dsimp only at nds stk sum c1 c2 c3 e1 e2 e3 ⊢
  have hi : SRep V W ⟨L, T, is, bL, cL, bV, cV, bW, cW⟩ := ⟨nds, stk, sum, c1, c2, c3, big⟩
  cases h with
  | @sg neg _ x V =>
    match is, stk, c2, e2, hi with
    | i :: is, stk, c2, e2, hi =>
      have hlt := stk.lt
      simp only [List.length_cons] at hs c2 c3 e2 e3
      refine (rs_apply_sg (w0 := w0) (A := A) (s := s) (x := p) (bL := bL) (bV := bV) (bW := bW) (L := L) (is := is) (W := W') (neg := neg) (i := i) (by omega) (by omega) (by omega) c2 c3).mono fun e w ⟨j, hj, he, hO⟩ => ⟨(), trivial, he, ?_⟩
      exact rsk_mk (i := ⟨L ++ [⟨[sgW neg], 0, i, 0⟩], T ++ [.sg neg x], L.length :: is, j.1.1, j.1.2, j.2.1, j.2.2, bW, cW⟩) (hi.push (is' := is) (V' := V) (.sg neg x i hlt stk.1) stk.2 (by simp only [sumT, Expr.sizeT]; omega) hj.1 hj.2 (by omega) (by omega)) (by simp only [List.length_append, List.length_cons, List.length_nil]; exact hO)
  | @op o _ x y V =>
    match is, stk, c2, e2, hi with
    | k :: i :: is, stk, c2, e2, hi =>
      have hlt := stk.lt
      have hlt2 := Stk.lt stk.2
      simp only [List.length_cons] at hs c2 c3 e2 e3
      refine (rs_apply_op (w0 := w0) (A := A) (s := s) (x := p) (bL := bL) (bV := bV) (bW := bW) (L := L) (is := is) (W := W') (o := o) (i := i) (k := k) (by omega) (by omega) (by omega) c2 c3).mono fun e w ⟨j, hj, he, hO⟩ => ⟨(), trivial, he, ?_⟩
      exact rsk_mk (i := ⟨L ++ [⟨o.bytes, 0, i, k⟩], T ++ [.bn o x y], L.length :: is, j.1.1, j.1.2, j.2.1, j.2.2, bW, cW⟩) (hi.push (is' := is) (V' := V) (.bn o x y i k hlt2 hlt stk.2.1 stk.1) stk.2.2 (by simp only [sumT, Expr.sizeT]; omega) hj.1 hj.2 (by omega) (by omega)) (by simp only [List.length_append, List.length_cons, List.length_nil]; exact hO)
    | [_], stk, _, _, _ => exact stk.2.elim
theorem topGo_iff {k : Nat} {W : List Wt} (h0 : 0 < W.length) (hl : ¬ bs (W.headD .lp).wb = ByteArray.mk #[40]) : ((k : Nat) : Int) ≤ ((rankS (W.headD .lp).wb : Nat) : Int) ↔ topGo k W = true := by
  match W, h0 with
  | .lp :: W, _ => exact absurd rfl hl
  | .sg neg :: W, _ =>
    have e : rankS (Wt.sg neg).wb = 6 := by cases neg <;> rfl
    show ((k : Nat) : Int) ≤ ((rankS (Wt.sg neg).wb : Nat) : Int) ↔ decide (k ≤ 6) = true
    rw [e, decide_eq_true_iff]; omega
  | .op o :: W, _ =>
    have e : rankS (Wt.op o).wb = o.rank := by cases o <;> rfl
    show ((k : Nat) : Int) ≤ ((rankS (Wt.op o).wb : Nat) : Int) ↔ decide (k ≤ o.rank) = true
    rw [e, decide_eq_true_iff]; omega
theorem topGo_lp {k : Nat} {W : List Wt} (hl : bs (W.headD .lp).wb = ByteArray.mk #[40]) : ¬ topGo k W = true := by
  have e : (W.headD .lp).wb = [40] := bse.1 hl
  match W, e with
  | [], _ => simp [topGo]
  | .lp :: W, _ => simp [topGo]
  | .sg neg :: W, e => have e : [sgW neg] = [40] := e; cases neg <;> exact absurd e (by decide)
  | .op o :: W, e => have e : o.bytes = [40] := e; cases o <;> exact absurd e (by decide)
theorem topGo_nil {k : Nat} {W : List Wt} (h : ¬ 0 < W.length) : ¬ topGo k W = true := by cases W with | nil => simp [topGo] | cons a b => exact absurd (by simp) h
theorem rs_down {w0 : World} {A : List HProp} {s p k : Nat} {V : List Tr} {W : List Wt} (hn : V.length = nbin W + 1) (hs : sumT V + W.length ≤ 800) :
    Fun Tryd.prog w0 26 [.pointer (some ⟨s, 0, none⟩), .int .i64 (k : Int)] (rsk s p V W :: A) (Ret w0 (fun _ : Unit => True) (fun _ => .tuple #[]) (fun _ => rsk s p (downM k W V).1 (downM k W V).2 :: A)) := by
  refine Fun.enter Tryd.func26 rfl Tryd.ntmps26 rfl ?_
  refine WC.block <| ?_
  refine WC.loop (ι := List Tr × List Wt) (fun i => []) [(0, .pointer _), (1, .int _ _)] (fun i => rsk s p i.1 i.2 :: A) (fun i => i.1.length = nbin i.2 + 1 ∧ sumT i.1 + i.2.length ≤ 800 ∧ downM k i.2 i.1 = downM k W V) (fun i => i.2.length) ((V, W)) (⟨hn, hs, rfl⟩) trivial ⟨rfl, rfl, trivial⟩ (fun _ h => Sb.own (by repeat' (first | with_reducible exact Sb.all | exact Sb.nil | (apply Sb.cons; focus (first | ((repeat (first | with_reducible exact Tk.here | with_reducible apply Tk.there)); done) | ((repeat (first | exact Tk.here | apply Tk.there)); done))) | apply Sb.drop)) h) ?_
  rintro ⟨V1, W1⟩ ⟨hn1, hs1, hd1⟩ ρh
  dsimp only at hn1 hs1 hd1 ⊢
  refine WC.ex (fun w h => rsk_open h) ?_
  rintro ⟨L, T, is, bL, cL, bV, cV, bW, cW⟩ hi
  have hwl := wtv_len W1
  have hcap : W1.length ≤ cW := hi.capW
  dsimp only
  refine WC.seq <| ?_
  refine WC.cutS [(41, .bool (decide (topGo k W1 = true)))] [(0, .pointer _), (1, .int _ _)] ⟨rfl, rfl, trivial⟩ ?_ fun ρh => ?_
  · -- ref.go:111
    refine WC.draws rfl (by kernel_rfl) <| qv (vmP rfl) <| qv (vnil rfl) <| qv (vfldp fl54f2 rfl) <| qv (vldc pl35 rfl) <| qv (vlen Tryd.underlying35 rfl) <| qvs (vgt rfl rfl) (fun q1 => ?_) (fun q1 => ?_)
    ·
      refine qv (vmB rfl) <| qvg rfl (vmP rfl) <| qvg rfl (vnil rfl) <| qvg rfl (vfldp fl54f2 rfl) <| qvg rfl (vldc pl35 rfl) <| qvg rfl (vmP rfl) <| qvg rfl (vnil rfl) <| qvg rfl (vfldp fl54f2 rfl) <| qvg rfl (vldc pl35 rfl) <| qvg rfl (vlen Tryd.underlying35 rfl) <| qvg rfl (vsub rfl rfl (by omega)) <| qvg rfl (vix1 Tryd.underlying35 sz9 rfl rfl (by omega) (by omega) reads (by omega)) <| qvg rfl (vldr pl9 rfl (wtv_top (W := W1) (by omega) (by omega))) <| qvsg rfl (vnes rfl rfl) (fun q2 => ?_) (fun q2 => ?_)
      ·
        exact qv (vpkt rfl) <| qv (vmB rfl) <| qvg rfl (vmP rfl) <| qvg rfl (vnil rfl) <| qvg rfl (vfldp fl54f2 rfl) <| qvg rfl (vldc pl35 rfl) <| qvg rfl (vmP rfl) <| qvg rfl (vnil rfl) <| qvg rfl (vfldp fl54f2 rfl) <| qvg rfl (vldc pl35 rfl) <| qvg rfl (vlen Tryd.underlying35 rfl) <| qvg rfl (vsub rfl rfl (by omega)) <| qvg rfl (vix1 Tryd.underlying35 sz9 rfl rfl (by omega) (by omega) reads (by omega)) <| qvg rfl (vldr pl9 rfl (wtv_top (W := W1) (by omega) (by omega))) <| qclg rfl (Fun.quiet (ref_rank)) ct24 rfl <| qvg rfl (vmI rfl) <| qvg rfl (vge rfl rfl) <| qv (vpkt rfl) <| WQ.nil <| WX.mid () trivial ⟨bI (topGo_iff (by omega) q2), trivial⟩ ⟨rfl, rfl, trivial⟩ (fun _ h => Sb.own (by repeat' (first | with_reducible exact Sb.all | exact Sb.nil | (apply Sb.cons; focus (first | ((repeat (first | with_reducible exact Tk.here | with_reducible apply Tk.there)); done) | ((repeat (first | exact Tk.here | apply Tk.there)); done))) | apply Sb.drop)) h)
      ·
        exact qv (vpkt rfl) <| qv (vmB rfl) <| qng rfl <| qng rfl <| qng rfl <| qng rfl <| qng rfl <| qng rfl <| qng rfl <| qng rfl <| qng rfl <| qng rfl <| qng rfl <| qng rfl <| qng rfl <| qng rfl <| qng rfl <| qv (vpkf rfl) <| WQ.nil <| WX.mid () trivial ⟨bF (topGo_lp (Decidable.not_not.1 q2)), trivial⟩ ⟨rfl, rfl, trivial⟩ (fun _ h => Sb.own (by repeat' (first | with_reducible exact Sb.all | exact Sb.nil | (apply Sb.cons; focus (first | ((repeat (first | with_reducible exact Tk.here | with_reducible apply Tk.there)); done) | ((repeat (first | exact Tk.here | apply Tk.there)); done))) | apply Sb.drop)) h)
    ·
      exact qv (vmB rfl) <| qng rfl <| qng rfl <| qng rfl <| qng rfl <| qng rfl <| qng rfl <| qng rfl <| qng rfl <| qng rfl <| qng rfl <| qng rfl <| qng rfl <| qng rfl <| qv (vpkf rfl) <| qv (vmB rfl) <| qng rfl <| qng rfl <| qng rfl <| qng rfl <| qng rfl <| qng rfl <| qng rfl <| qng rfl <| qng rfl <| qng rfl <| qng rfl <| qng rfl <| qng rfl <| qng rfl <| qng rfl <| qv (vpkf rfl) <| WQ.nil <| WX.mid () trivial ⟨bF (topGo_nil (by omega)), trivial⟩ ⟨rfl, rfl, trivial⟩ (fun _ h => Sb.own (by repeat' (first | with_reducible exact Sb.all | exact Sb.nil | (apply Sb.cons; focus (first | ((repeat (first | with_reducible exact Tk.here | with_reducible apply Tk.there)); done) | ((repeat (first | exact Tk.here | apply Tk.there)); done))) | apply Sb.drop)) h)
  refine WC.ite rfl (fun h1 => ?_) (fun h1 => ?_)
  · -- then
    obtain ⟨W2, V2, ha, hd2⟩ := down_go h1 hn1
    obtain ⟨f1, f2, f3⟩ := ha.facts hn1
    refine WC.skip <| WX.thenN <| WC.block <| WC.region <| sv (vmP rfl) <| pm (fun _ h => rsk_mk (i := ⟨L, T, is, bL, cL, bV, cV, bW, cW⟩) hi (Own.sp5 (by repeat' (first | exact Spl.nil | (apply Spl.cons; focus (first | ((repeat (first | with_reducible exact Tk.here | with_reducible apply Tk.there)); done) | ((repeat (first | exact Tk.here | apply Tk.there)); done))))) h)) <| clx (by repeat' (first | with_reducible exact Sb.all | exact Sb.nil | (apply Sb.cons; focus (first | ((repeat (first | with_reducible exact Tk.here | with_reducible apply Tk.there)); done) | ((repeat (first | exact Tk.here | apply Tk.there)); done))) | apply Sb.drop)) (rs_apply ha hs1) ct36 rfl fun r13 hr13 => ?_
    exact WL.nil <| WX.blockN <| WX.again ((V2, W2)) (⟨f1, by dsimp only; omega, hd2.symm.trans hd1⟩) (by dsimp only; omega) trivial ⟨rfl, rfl, trivial⟩ (fun _ h => Sb.own (by repeat' (first | with_reducible exact Sb.all | exact Sb.nil | (apply Sb.cons; focus (first | ((repeat (first | with_reducible exact Tk.here | with_reducible apply Tk.there)); done) | ((repeat (first | exact Tk.here | apply Tk.there)); done))) | apply Sb.drop)) h)
  · -- else
    have hst := down_stop (k := k) (V := V1) (by simpa using h1)
    rw [hst] at hd1
    rw [← hd1]
    exact WC.exit <| WX.thenE <| WX.thenE <| WX.blockH <| WX.end0 rfl (()) (trivial) rfl (fun w h => by have h2 := rsk_mk (i := ⟨L, T, is, bL, cL, bV, cV, bW, cW⟩) hi (Own.sp5 (by repeat' (first | exact Spl.nil | (apply Spl.cons; focus (first | ((repeat (first | with_reducible exact Tk.here | with_reducible apply Tk.there)); done) | ((repeat (first | exact Tk.here | apply Tk.there)); done))))) h); exact Sb.own (by repeat' (first | with_reducible exact Sb.all | exact Sb.nil | (apply Sb.cons; focus (first | ((repeat (first | with_reducible exact Tk.here | with_reducible apply Tk.there)); done) | ((repeat (first | exact Tk.here | apply Tk.there)); done))) | apply Sb.drop)) h2)
end Go.Proofs.YtoeglkkmjmhmiaaDoor
