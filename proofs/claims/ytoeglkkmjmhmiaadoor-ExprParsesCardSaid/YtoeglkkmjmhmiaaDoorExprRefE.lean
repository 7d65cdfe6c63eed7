/-
  Layer 4: the operator that waits last is done; all that binds as much.
-/
import Derived.Test.YtoeglkkmjmhmiaaDoorExprRefD
set_option linter.unusedVariables false
set_option linter.unusedSimpArgs false
set_option maxRecDepth 4000
namespace Go.Proofs.YtoeglkkmjmhmiaaDoor
open Go.Sl Go.RowKit Go.Expr Go.Shelf

theorem rs_apply_sg {w0 : World} {A : List HProp} {s x cL cV cW i : Nat} {bL bV bW : Option Addr} {L : List Nd} {is : List Nat} {W : List Wt} {neg : Bool} (hL : L.length ≤ 1000) (hI : is.length ≤ 900) (hW : W.length ≤ 1000) (hcV : is.length + 1 ≤ cV) (hcW : W.length + 1 ≤ cW) :
    Fun Tryd.prog w0 36 [.pointer (some ⟨s, 0, none⟩)]
      (cel s [.pointer (some ⟨x, 0, none⟩), .slice bV (is.length + 1) cV, .slice bW (W.length + 1) cW] 54 :: cel x [.slice bL L.length cL, .int .i64 0] 52 :: row bL cL 4 63 (fla ndv L) :: row bV cV 1 3 (ixv (i :: is)) :: row bW cW 1 9 (wtv (.sg neg :: W)) :: A)
      (Ret w0 (fun j : (Option Addr × Nat) × (Option Addr × Nat) => L.length + 1 ≤ j.1.2 ∧ is.length + 1 ≤ j.2.2) (fun _ => .tuple #[]) (fun j => cel s [.pointer (some ⟨x, 0, none⟩), .slice j.2.1 (is.length + 1) j.2.2, .slice bW W.length cW] 54 :: cel x [.slice j.1.1 (L.length + 1) j.1.2, .int .i64 0] 52 :: row j.1.1 j.1.2 4 63 (fla ndv (L ++ [⟨[sgW neg], 0, i, 0⟩])) :: row j.2.1 j.2.2 1 3 (ixv (L.length :: is)) :: row bW cW 1 9 (wtv W) :: A)) := by
  have hwl := wtv_len (.sg neg :: W)
  have hil := ixv_len (i :: is)
  simp only [List.length_cons] at hwl hil
  refine Fun.enter Tryd.func36 rfl Tryd.ntmps36 rfl ?_
  refine WC.seq <| WC.draws rfl (by kernel_rfl) <| qv (vmP rfl) <| qv (vnil rfl) <| qv (vfldp fl54f2 rfl) <| qv (vldc pl35 rfl) <| qv (vmP rfl) <| qv (vnil rfl) <| qv (vfldp fl54f2 rfl) <| qv (vldc pl35 rfl) <| qv (vlen Tryd.underlying35 rfl) <| qv (vsub rfl rfl (by omega)) <| qv (vix1 Tryd.underlying35 sz9 rfl rfl (by omega) (by omega) reads (by omega)) <| qv (vldr pl9 rfl (wtv_top (W := .sg neg :: W) (by simp) (by simp only [List.length_cons]; omega))) <| qv (vaT rfl) <| WQ.nil <| WX.thenN <| WC.seq <| WC.plan (.bar [0, 1, 2, 3, 4, 5, 6, 7, 8, 9, 10, 11, 12, 13] 14 (.done [])) rfl (by kernel_rfl) <| WPl.barC <| dv (fun g => (vmP rfl)) <| dv (fun g => (vmP rfl)) <| dv (fun g => (vnil rfl)) <| dv (fun g => (vfldp fl54f2 rfl)) <| dv (fun g => (vldc pl35 rfl)) <| dv (fun g => (vmP rfl)) <| dv (fun g => (vnil rfl)) <| dv (fun g => (vfldp fl54f2 rfl)) <| dv (fun g => (vldc pl35 rfl)) <| dv (fun g => (vlen Tryd.underlying35 rfl)) <| dv (fun g => (vsub rfl rfl (by omega))) <| dv (fun g => (vw (v' := .slice bW W.length cW) (vslH Tryd.underlying35 sz9 rfl rfl (by omega) (by omega)) (by rw [show (((W.length + 1 : Nat) : Int) - 1).toNat = W.length by omega]))) <| dv (fun g => (vnil rfl)) <| dv (fun g => (vfldp fl54f2 rfl)) <| WD.eff rfl <| stp (v := .slice _ _ _) pl35 sz35 rfl rfl rfl <| WL.nil <| WX.brT <| WPl.finC <| WD.nil <| WX.thenN <| WC.seq <| WC.region <| sv (vmP rfl) <| sv (vnil rfl) <| sv (vfldp fl54f1 rfl) <| sv (vldc pl39 rfl) <| sv (vlen Tryd.underlying39 rfl) <| sv (vaI rfl) <| WL.nil <| WX.thenN <| WC.seq <| ?_
  refine WC.cutS [(43, .bool true)] [(0, .pointer _), (2, .string _), (3, .int _ _)] ⟨rfl, rfl, rfl, trivial⟩ ?_ fun ρh => ?_
  · -- ref.go:97
    refine WC.region <| sv (vmT rfl) <| svs (veqs rfl rfl) (fun q1 => ?_) (fun q1 => ?_)
    ·
      exact sv (vmB rfl) <| sng rfl <| sng rfl <| sv (vpkt rfl) <| WL.nil <| WX.mid () trivial ⟨rfl, trivial⟩ ⟨rfl, rfl, rfl, trivial⟩ (fun _ h => Sb.own (by repeat' (first | with_reducible exact Sb.all | exact Sb.nil | (apply Sb.cons; focus (first | ((repeat (first | with_reducible exact Tk.here | with_reducible apply Tk.there)); done) | ((repeat (first | exact Tk.here | apply Tk.there)); done))) | apply Sb.drop)) h)
    ·
      exact sv (vmB rfl) <| svg rfl (vmT rfl) <| svg rfl (veqs rfl rfl) <| sv (vpkf rfl) <| WL.nil <| WX.mid () trivial ⟨by cases neg; rfl; exact absurd rfl q1, trivial⟩ ⟨rfl, rfl, rfl, trivial⟩ (fun _ h => Sb.own (by repeat' (first | with_reducible exact Sb.all | exact Sb.nil | (apply Sb.cons; focus (first | ((repeat (first | with_reducible exact Tk.here | with_reducible apply Tk.there)); done) | ((repeat (first | exact Tk.here | apply Tk.there)); done))) | apply Sb.drop)) h)
  refine WC.tt rfl ?_
  refine WC.seq <| WC.region <| sv (vmP rfl) <| sv (vnil rfl) <| sv (vfldp fl54f1 rfl) <| sv (vldc pl39 rfl) <| sv (vmI rfl) <| sv (vsub rfl rfl (by omega)) <| sv (vix1 Tryd.underlying39 sz3 rfl rfl (by omega) (by omega) reads (by omega)) <| sv (vldr pl3 rfl (ixv_top (i := i) (l := is) (by omega))) <| sv (vaI rfl) <| WL.nil <| WX.thenN <| WC.seq <| WC.region <| sv (vmP rfl) <| sv (vmP rfl) <| sv (vnil rfl) <| sv (vfldp fl54f1 rfl) <| sv (vldc pl39 rfl) <| sv (vmI rfl) <| sv (vsub rfl rfl (by omega)) <| sv (vw (v' := .slice bV is.length cV) (vslH Tryd.underlying39 sz3 rfl rfl (by omega) (by omega)) (by rw [show (((is.length + 1 : Nat) : Int) - 1).toNat = is.length by omega])) <| sv (vnil rfl) <| sv (vfldp fl54f1 rfl) <| stp (v := .slice _ _ _) pl39 sz39 rfl rfl rfl <| WL.nil <| WX.thenN <| WC.seq <| WC.region <| sv (vmP rfl) <| sv (vmT rfl) <| sv (vmI rfl) <| sv (vbd (ps := [(0, .string _), (2, .int _ _)]) (cs := [_, _, _, _]) bt63 zt63 rfl (by rfl)) <| pm (fun _ h => pop_ix (i := i) (l := is) (Own.sp1 (by repeat' (first | exact Spl.nil | (apply Spl.cons; focus (first | ((repeat (first | with_reducible exact Tk.here | with_reducible apply Tk.there)); done) | ((repeat (first | exact Tk.here | apply Tk.there)); done))))) h)) <| clx (by repeat' (first | with_reducible exact Sb.all | exact Sb.nil | (apply Sb.cons; focus (first | ((repeat (first | with_reducible exact Tk.here | with_reducible apply Tk.there)); done) | ((repeat (first | exact Tk.here | apply Tk.there)); done))) | apply Sb.drop)) (rs_value (d := ⟨[sgW neg], 0, i, 0⟩) hL (by omega)) ct35 rfl fun r21 hr21 => ?_
  exact WL.nil <| WX.thenN <| WC.ret <| WX.thenR <| WX.ret0 rfl (r21) (hr21) rfl (fun w h => by have h2 := pop_wt (x := .sg neg) (W := W) (bW := bW) (cW := cW) (Own.sp1 (by repeat' (first | exact Spl.nil | (apply Spl.cons; focus (first | ((repeat (first | with_reducible exact Tk.here | with_reducible apply Tk.there)); done) | ((repeat (first | exact Tk.here | apply Tk.there)); done))))) h); exact Sb.own (by repeat' (first | with_reducible exact Sb.all | exact Sb.nil | (apply Sb.cons; focus (first | ((repeat (first | with_reducible exact Tk.here | with_reducible apply Tk.there)); done) | ((repeat (first | exact Tk.here | apply Tk.there)); done))) | apply Sb.drop)) h2)
theorem rs_apply_op {w0 : World} {A : List HProp} {s x cL cV cW i k : Nat} {bL bV bW : Option Addr} {L : List Nd} {is : List Nat} {W : List Wt} {o : Bo} (hL : L.length ≤ 1000) (hI : is.length ≤ 900) (hW : W.length ≤ 1000) (hcV : is.length + 2 ≤ cV) (hcW : W.length + 1 ≤ cW) :
    Fun Tryd.prog w0 36 [.pointer (some ⟨s, 0, none⟩)]
      (cel s [.pointer (some ⟨x, 0, none⟩), .slice bV (is.length + 2) cV, .slice bW (W.length + 1) cW] 54 :: cel x [.slice bL L.length cL, .int .i64 0] 52 :: row bL cL 4 63 (fla ndv L) :: row bV cV 1 3 (ixv (k :: i :: is)) :: row bW cW 1 9 (wtv (.op o :: W)) :: A)
      (Ret w0 (fun j : (Option Addr × Nat) × (Option Addr × Nat) => L.length + 1 ≤ j.1.2 ∧ is.length + 1 ≤ j.2.2) (fun _ => .tuple #[]) (fun j => cel s [.pointer (some ⟨x, 0, none⟩), .slice j.2.1 (is.length + 1) j.2.2, .slice bW W.length cW] 54 :: cel x [.slice j.1.1 (L.length + 1) j.1.2, .int .i64 0] 52 :: row j.1.1 j.1.2 4 63 (fla ndv (L ++ [⟨o.bytes, 0, i, k⟩])) :: row j.2.1 j.2.2 1 3 (ixv (L.length :: is)) :: row bW cW 1 9 (wtv W) :: A)) := by
  have hwl := wtv_len (.op o :: W)
  have hil := ixv_len (k :: i :: is)
  simp only [List.length_cons] at hwl hil
  refine Fun.enter Tryd.func36 rfl Tryd.ntmps36 rfl ?_
  refine WC.seq <| WC.draws rfl (by kernel_rfl) <| qv (vmP rfl) <| qv (vnil rfl) <| qv (vfldp fl54f2 rfl) <| qv (vldc pl35 rfl) <| qv (vmP rfl) <| qv (vnil rfl) <| qv (vfldp fl54f2 rfl) <| qv (vldc pl35 rfl) <| qv (vlen Tryd.underlying35 rfl) <| qv (vsub rfl rfl (by omega)) <| qv (vix1 Tryd.underlying35 sz9 rfl rfl (by omega) (by omega) reads (by omega)) <| qv (vldr pl9 rfl (wtv_top (W := .op o :: W) (by simp) (by simp only [List.length_cons]; omega))) <| qv (vaT rfl) <| WQ.nil <| WX.thenN <| WC.seq <| WC.plan (.bar [0, 1, 2, 3, 4, 5, 6, 7, 8, 9, 10, 11, 12, 13] 14 (.done [])) rfl (by kernel_rfl) <| WPl.barC <| dv (fun g => (vmP rfl)) <| dv (fun g => (vmP rfl)) <| dv (fun g => (vnil rfl)) <| dv (fun g => (vfldp fl54f2 rfl)) <| dv (fun g => (vldc pl35 rfl)) <| dv (fun g => (vmP rfl)) <| dv (fun g => (vnil rfl)) <| dv (fun g => (vfldp fl54f2 rfl)) <| dv (fun g => (vldc pl35 rfl)) <| dv (fun g => (vlen Tryd.underlying35 rfl)) <| dv (fun g => (vsub rfl rfl (by omega))) <| dv (fun g => (vw (v' := .slice bW W.length cW) (vslH Tryd.underlying35 sz9 rfl rfl (by omega) (by omega)) (by rw [show (((W.length + 1 : Nat) : Int) - 1).toNat = W.length by omega]))) <| dv (fun g => (vnil rfl)) <| dv (fun g => (vfldp fl54f2 rfl)) <| WD.eff rfl <| stp (v := .slice _ _ _) pl35 sz35 rfl rfl rfl <| WL.nil <| WX.brT <| WPl.finC <| WD.nil <| WX.thenN <| WC.seq <| WC.region <| sv (vmP rfl) <| sv (vnil rfl) <| sv (vfldp fl54f1 rfl) <| sv (vldc pl39 rfl) <| sv (vlen Tryd.underlying39 rfl) <| sv (vaI rfl) <| WL.nil <| WX.thenN <| WC.seq <| ?_
  refine WC.cutS [(43, .bool false)] [(0, .pointer _), (2, .string _), (3, .int _ _)] ⟨rfl, rfl, rfl, trivial⟩ ?_ fun ρh => ?_
  · -- ref.go:97
    refine WC.region <| sv (vmT rfl) <| svs (veqs rfl rfl) (fun q1 => ?_) (fun q1 => ?_)
    ·
      exact sv (vmB rfl) <| sng rfl <| sng rfl <| sv (vpkt rfl) <| WL.nil <| WX.mid () trivial ⟨by have e : o.bytes = [126] := bse.1 q1; cases o <;> exact absurd e (by decide), trivial⟩ ⟨rfl, rfl, rfl, trivial⟩ (fun _ h => Sb.own (by repeat' (first | with_reducible exact Sb.all | exact Sb.nil | (apply Sb.cons; focus (first | ((repeat (first | with_reducible exact Tk.here | with_reducible apply Tk.there)); done) | ((repeat (first | exact Tk.here | apply Tk.there)); done))) | apply Sb.drop)) h)
    ·
      exact sv (vmB rfl) <| svg rfl (vmT rfl) <| svg rfl (veqs rfl rfl) <| sv (vpkf rfl) <| WL.nil <| WX.mid () trivial ⟨by cases o <;> rfl, trivial⟩ ⟨rfl, rfl, rfl, trivial⟩ (fun _ h => Sb.own (by repeat' (first | with_reducible exact Sb.all | exact Sb.nil | (apply Sb.cons; focus (first | ((repeat (first | with_reducible exact Tk.here | with_reducible apply Tk.there)); done) | ((repeat (first | exact Tk.here | apply Tk.there)); done))) | apply Sb.drop)) h)
  refine WC.ff rfl ?_
  refine WC.skip <| WX.thenN <| WC.seq <| WC.region <| sv (vmP rfl) <| sv (vnil rfl) <| sv (vfldp fl54f1 rfl) <| sv (vldc pl39 rfl) <| sv (vmI rfl) <| sv (vsub rfl rfl (by omega)) <| sv (vix1 Tryd.underlying39 sz3 rfl rfl (by omega) (by omega) reads (by omega)) <| sv (vldr pl3 rfl (ixv_two (i := i) (k := k) (l := is) (by omega))) <| sv (vaI rfl) <| WL.nil <| WX.thenN <| WC.seq <| WC.region <| sv (vmP rfl) <| sv (vnil rfl) <| sv (vfldp fl54f1 rfl) <| sv (vldc pl39 rfl) <| sv (vmI rfl) <| sv (vsub rfl rfl (by omega)) <| sv (vix1 Tryd.underlying39 sz3 rfl rfl (by omega) (by omega) reads (by omega)) <| sv (vldr pl3 rfl (ixv_top (i := k) (l := i :: is) (by simp only [List.length_cons]; omega))) <| sv (vaI rfl) <| WL.nil <| WX.thenN <| WC.seq <| WC.region <| sv (vmP rfl) <| sv (vmP rfl) <| sv (vnil rfl) <| sv (vfldp fl54f1 rfl) <| sv (vldc pl39 rfl) <| sv (vmI rfl) <| sv (vsub rfl rfl (by omega)) <| sv (vw (v' := .slice bV is.length cV) (vslH Tryd.underlying39 sz3 rfl rfl (by omega) (by omega)) (by rw [show (((is.length + 2 : Nat) : Int) - 2).toNat = is.length by omega])) <| sv (vnil rfl) <| sv (vfldp fl54f1 rfl) <| stp (v := .slice _ _ _) pl39 sz39 rfl rfl rfl <| WL.nil <| WX.thenN <| WC.region <| sv (vmP rfl) <| sv (vmT rfl) <| sv (vmI rfl) <| sv (vmI rfl) <| sv (vbd (ps := [(0, .string _), (2, .int _ _), (3, .int _ _)]) (cs := [_, _, _, _]) bt63 zt63 rfl (by rfl)) <| pm (fun _ h => pop_ix (i := i) (l := is) (pop_ix (i := k) (l := i :: is) (Own.sp1 (by repeat' (first | exact Spl.nil | (apply Spl.cons; focus (first | ((repeat (first | with_reducible exact Tk.here | with_reducible apply Tk.there)); done) | ((repeat (first | exact Tk.here | apply Tk.there)); done))))) h))) <| clx (by repeat' (first | with_reducible exact Sb.all | exact Sb.nil | (apply Sb.cons; focus (first | ((repeat (first | with_reducible exact Tk.here | with_reducible apply Tk.there)); done) | ((repeat (first | exact Tk.here | apply Tk.there)); done))) | apply Sb.drop)) (rs_value (d := ⟨o.bytes, 0, i, k⟩) hL (by omega)) ct35 rfl fun r35 hr35 => ?_
  exact WL.nil <| WX.end0 rfl (r35) (hr35) rfl (fun w h => by have h2 := pop_wt (x := .op o) (W := W) (bW := bW) (cW := cW) (Own.sp1 (by repeat' (first | exact Spl.nil | (apply Spl.cons; focus (first | ((repeat (first | with_reducible exact Tk.here | with_reducible apply Tk.there)); done) | ((repeat (first | exact Tk.here | apply Tk.there)); done))))) h); exact Sb.own (by repeat' (first | with_reducible exact Sb.all | exact Sb.nil | (apply Sb.cons; focus (first | ((repeat (first | with_reducible exact Tk.here | with_reducible apply Tk.there)); done) | ((repeat (first | exact Tk.here | apply Tk.there)); done))) | apply Sb.drop)) h2)
structure SI where
  L : List Nd
  T : List Tr
  is : List Nat
  bL : Option Addr
  cL : Nat
  bV : Option Addr
  cV : Nat
  bW : Option Addr
  cW : Nat
structure SRep (V : List Tr) (W : List Wt) (i : SI) : Prop where
  nds : Nds i.L i.T
  stk : Stk i.T i.is V
  sum : i.T.length = sumT V
  capL : i.L.length ≤ i.cL
  capV : i.is.length ≤ i.cV
  capW : W.length ≤ i.cW
  big : ∀ t ∈ i.T, Expr.sizeT t ≤ 1000
abbrev scl (x nW : Nat) (i : SI) : List Value := [.pointer (some ⟨x, 0, none⟩), .slice i.bV i.is.length i.cV, .slice i.bW nW i.cW]
def rsk (s x : Nat) (V : List Tr) (W : List Wt) : HProp := fun h => ∃ i : SI, SRep V W i ∧ star (cel s (scl x W.length i) 54) (star (cel x [.slice i.bL i.L.length i.cL, .int .i64 0] 52) (star (row i.bL i.cL 4 63 (fla ndv i.L)) (star (row i.bV i.cV 1 3 (ixv i.is)) (row i.bW i.cW 1 9 (wtv W))))) h
theorem rsk_open {w0 w : World} {A : List HProp} {s x : Nat} {V : List Tr} {W : List Wt} (H : Own w0 (rsk s x V W :: A) w) :
    ∃ i : SI, SRep V W i ∧ Own w0 (cel s (scl x W.length i) 54 :: cel x [.slice i.bL i.L.length i.cL, .int .i64 0] 52 :: row i.bL i.cL 4 63 (fla ndv i.L) :: row i.bV i.cV 1 3 (ixv i.is) :: row i.bW i.cW 1 9 (wtv W) :: A) w := by
  obtain ⟨hb, h, ⟨h1, h2, ⟨i, hi, a⟩, a2, dd, y⟩, hw⟩ := H
  have h3 : Own w0 (star (cel s (scl x W.length i) 54) (star (cel x [.slice i.bL i.L.length i.cL, .int .i64 0] 52) (star (row i.bL i.cL 4 63 (fla ndv i.L)) (star (row i.bV i.cV 1 3 (ixv i.is)) (row i.bW i.cW 1 9 (wtv W))))) :: A) w := ⟨hb, h, ⟨h1, h2, a, a2, dd, y⟩, hw⟩
  have h4 := h3.star.pk1.star.pk1.star.pk1.star
  exact ⟨i, hi, h4.ix [4, 3, 2, 0, 1]⟩
theorem rsk_mk {w0 w : World} {A : List HProp} {s x : Nat} {V : List Tr} {W : List Wt} {i : SI} (hi : SRep V W i) (H : Own w0 (cel s (scl x W.length i) 54 :: cel x [.slice i.bL i.L.length i.cL, .int .i64 0] 52 :: row i.bL i.cL 4 63 (fla ndv i.L) :: row i.bV i.cV 1 3 (ixv i.is) :: row i.bW i.cW 1 9 (wtv W) :: A) w) : Own w0 (rsk s x V W :: A) w := by
  have h1 : Own w0 (star (row i.bV i.cV 1 3 (ixv i.is)) (row i.bW i.cW 1 9 (wtv W)) :: cel s (scl x W.length i) 54 :: cel x [.slice i.bL i.L.length i.cL, .int .i64 0] 52 :: row i.bL i.cL 4 63 (fla ndv i.L) :: A) w := (H.ix [3, 4, 0, 1, 2]).intro_star
  have h2 := (h1.ix [3, 0, 1, 2]).intro_star
  have h3 := (h2.ix [2, 0, 1]).intro_star
  have h4 := (h3.ix [1, 0]).intro_star
  exact h4.head fun _ h => ⟨i, hi, h⟩
end Go.Proofs.YtoeglkkmjmhmiaaDoor
