/-
  Layer 4: the document's stacks as a chunk of memory; a part is laid; the operator that waits last is done.
-/
import Derived.Test.YtoeglkkmjmhmiaaDoorExprRefC
import Derived.Test.YtoeglkkmjmhmiaaDoorExprStk
import Derived.Test.YtoeglkkmjmhmiaaDoorSlFlat
set_option linter.unusedVariables false
set_option linter.unusedSimpArgs false
set_option maxRecDepth 4000
namespace Go.Proofs.YtoeglkkmjmhmiaaDoor
open Go.Sl Go.RowKit Go.Expr Go.Shelf

abbrev ndv (d : Nd) : List Value := [.string (bs d.op), .int .i64 d.n, .int .i64 d.l, .int .i64 d.r]
theorem ndv_len : ∀ d : Nd, (ndv d).length = 4 := fun _ => rfl
theorem ndv_one (d : Nd) : ∀ v ∈ ndv d, v.oneCell' = true := by intro v hv; simp only [List.mem_cons, List.not_mem_nil, or_false] at hv; rcases hv with rfl | rfl | rfl | rfl <;> rfl
def ixv (l : List Nat) : List Value := l.reverse.map fun i => .int .i64 ((i : Nat) : Int)
theorem ixv_len (l : List Nat) : (ixv l).length = l.length := by simp [ixv]
theorem ixv_cons (i : Nat) (l : List Nat) : ixv (i :: l) = ixv l ++ [.int .i64 ((i : Nat) : Int)] := by simp [ixv]
theorem ixv_top {i : Nat} {l : List Nat} {j : Nat} (hj : j = l.length) : (ixv (i :: l))[j]? = some (.int .i64 ((i : Nat) : Int)) := by
  subst hj
  rw [ixv_cons, List.getElem?_append_right (by rw [ixv_len]; exact Nat.le_refl _), ixv_len, Nat.sub_self]; rfl
theorem ixv_two {i k : Nat} {l : List Nat} {j : Nat} (hj : j = l.length) : (ixv (k :: i :: l))[j]? = some (.int .i64 ((i : Nat) : Int)) := by
  rw [ixv_cons, List.getElem?_append_left (by rw [ixv_len, hj]; simp)]
  exact ixv_top hj
def wtv (W : List Wt) : List Value := W.reverse.map fun w => .string (bs w.wb)
theorem wtv_len (W : List Wt) : (wtv W).length = W.length := by simp [wtv]
theorem wtv_cons (w : Wt) (W : List Wt) : wtv (w :: W) = wtv W ++ [.string (bs w.wb)] := by simp [wtv]
theorem wtv_top {W : List Wt} {j : Nat} (h : 0 < W.length) (hj : j = W.length - 1) : (wtv W)[j]? = some (.string (bs (W.headD .lp).wb)) := by
  cases W with
  | nil => simp at h
  | cons w W =>
    rw [List.length_cons, Nat.add_sub_cancel] at hj
    subst hj
    rw [wtv_cons, List.getElem?_append_right (by rw [wtv_len]; exact Nat.le_refl _), wtv_len, Nat.sub_self]; rfl
theorem pop_ix {w0 w : World} {A : List HProp} {bV : Option Addr} {cV i : Nat} {l : List Nat} {e : TypeId} (H : Own w0 (row bV cV 1 e (ixv (i :: l)) :: A) w) : Own w0 (row bV cV 1 e (ixv l) :: A) w := H.row_prefix ⟨[_], (ixv_cons i l).symm⟩
theorem pop_wt {w0 w : World} {A : List HProp} {bW : Option Addr} {cW : Nat} {x : Wt} {W : List Wt} {e : TypeId} (H : Own w0 (row bW cW 1 e (wtv (x :: W)) :: A) w) : Own w0 (row bW cW 1 e (wtv W) :: A) w := H.row_prefix ⟨[_], (wtv_cons x W).symm⟩
theorem rs_value {w0 : World} {A : List HProp} {s x cL cV : Nat} {bL bV : Option Addr} {w3 : Value} {r : Int} {L : List Nd} {is : List Nat} {d : Nd} (hL : L.length ≤ 1000) (hI : is.length ≤ 1000) :
    Fun Tryd.prog w0 35 [.pointer (some ⟨s, 0, none⟩), .agg (ndv d).toArray]
      (cel s [.pointer (some ⟨x, 0, none⟩), .slice bV is.length cV, w3] 54 :: cel x [.slice bL L.length cL, .int .i64 r] 52 :: row bL cL 4 63 (fla ndv L) :: row bV cV 1 3 (ixv is) :: A)
      (Ret w0 (fun i : (Option Addr × Nat) × (Option Addr × Nat) => L.length + 1 ≤ i.1.2 ∧ is.length + 1 ≤ i.2.2) (fun _ => .tuple #[]) (fun i => cel s [.pointer (some ⟨x, 0, none⟩), .slice i.2.1 (is.length + 1) i.2.2, w3] 54 :: cel x [.slice i.1.1 (L.length + 1) i.1.2, .int .i64 r] 52 :: row i.1.1 i.1.2 4 63 (fla ndv (L ++ [d])) :: row i.2.1 i.2.2 1 3 (ixv (L.length :: is)) :: A)) := by
  have hfl := fla_length (f := ndv) (l := L) ndv_len
  have hil := ixv_len is
  refine Fun.enter Tryd.func35 rfl Tryd.ntmps35 rfl ?_
  refine WC.seq <| WC.region <| bxc (v := .agg _) (cs := [.string _, .int _ _, .int _ _, .int _ _]) rfl rfl fun b1 => WL.nil <| WX.thenN <| WC.seq <| WC.plan (.pre [11] (.one [0, 1, 2, 3, 4, 5, 6, 7, 8, 9, 10] 12 (.one [] 13 (.bar [14, 15] 16 (.done []))))) rfl (by kernel_rfl) <| WPl.preC <| dv (fun g => (vldac ag63 sz63 rfl rfl (by decide))) <| WD.nil <| WPl.oneX [row bL cL _ _ _] (by repeat' (first | exact Spl.nil | (apply Spl.cons; focus (first | ((repeat (first | with_reducible exact Tk.here | with_reducible apply Tk.there)); done) | ((repeat (first | exact Tk.here | apply Tk.there)); done))))) (fun g => by infer_instance) ?_
  refine dv (fun g => (vmP rfl)) <| dv (fun g => (vnil rfl)) <| dv (fun g => (vfldpz fl54f0 rfl)) <| dv (fun g => (vldc pl26 rfl)) <| dv (fun g => (vmP rfl)) <| dv (fun g => (vnil rfl)) <| dv (fun g => (vfldpz fl54f0 rfl)) <| dv (fun g => (vldc pl26 rfl)) <| dv (fun g => (vnil rfl)) <| dv (fun g => (vfldpz fl52f0 rfl)) <| dv (fun g => (vldc pl50 rfl)) <| WD.eff rfl <| bslA (v := .agg _) (cs := ndv d) Tryd.underlying50 zt63 rfl rfl rfl (by decide) (by decide) fun b6 => WL.nil <| WX.br <| WPl.oneX [row bL cL _ _ _] (by repeat' (first | exact Spl.nil | (apply Spl.cons; focus (first | ((repeat (first | with_reducible exact Tk.here | with_reducible apply Tk.there)); done) | ((repeat (first | exact Tk.here | apply Tk.there)); done))))) (fun g => by infer_instance) ?_
  refine WD.eff rfl <| pm (fun _ h => Sb.own (by repeat' (first | with_reducible exact Sb.all | exact Sb.nil | (apply Sb.cons; focus (first | ((repeat (first | with_reducible exact Tk.here | with_reducible apply Tk.there)); done) | ((repeat (first | exact Tk.here | apply Tk.there)); done))) | apply Sb.drop)) h) <| ap (vs := fla ndv L) (news := ndv d) rfl Tryd.underlying50 zt63 rfl rfl rfl (by omega) (rfl) (ndv_one _) ((RdC.of_cel (e := 63) (ws := ndv d) 0 (by simp) (by simp))) (by simp only [maxLen]; omega) (by omega) fun base7 c7 hc7 => ?_
  refine WL.nil <| WX.br <| WPl.barC <| dv (fun g => (vnil rfl)) <| dv (fun g => (vfldpz fl52f0 rfl)) <| WD.eff rfl <| stp (v := .slice _ _ _) pl50 sz50 rfl rfl rfl <| WL.nil <| WX.brT <| WPl.finC <| WD.nil <| WX.thenN <| WC.plan (.pre [5, 6, 7, 8, 9, 10, 11, 12, 13] (.one [0, 1, 2, 3, 4] 14 (.one [] 15 (.bar [16, 17] 18 (.done []))))) rfl (by kernel_rfl) <| WPl.preC <| dv (fun g => (vmP rfl)) <| dv (fun g => (vnil rfl)) <| dv (fun g => (vfldpz fl54f0 rfl)) <| dv (fun g => (vldc pl26 rfl)) <| dv (fun g => (vnil rfl)) <| dv (fun g => (vfldpz fl52f0 rfl)) <| dv (fun g => (vldc pl50 rfl)) <| dv (fun g => (vlen Tryd.underlying50 rfl)) <| dv (fun g => (vw (v' := .int .i64 ((L.length : Nat) : Int)) (vsub rfl rfl (by omega)) (iv (by omega)))) <| WD.nil <| WPl.oneX [row bV cV _ _ _] (by repeat' (first | exact Spl.nil | (apply Spl.cons; focus (first | ((repeat (first | with_reducible exact Tk.here | with_reducible apply Tk.there)); done) | ((repeat (first | exact Tk.here | apply Tk.there)); done))))) (fun g => by infer_instance) ?_
  refine dv (fun g => (vmP rfl)) <| dv (fun g => (vmP rfl)) <| dv (fun g => (vnil rfl)) <| dv (fun g => (vfldp fl54f1 rfl)) <| dv (fun g => (vldc pl39 rfl)) <| WD.eff rfl <| bsln [.int _ _] Tryd.underlying39 zt3 rfl rfl (by intro v hv; simp only [List.mem_cons, List.not_mem_nil, or_false] at hv; rcases hv with rfl <;> rfl) (by simp) fun b13 => WL.nil <| WX.br <| WPl.oneX [row bV cV _ _ _] (by repeat' (first | exact Spl.nil | (apply Spl.cons; focus (first | ((repeat (first | with_reducible exact Tk.here | with_reducible apply Tk.there)); done) | ((repeat (first | exact Tk.here | apply Tk.there)); done))))) (fun g => by infer_instance) ?_
  refine WD.eff rfl <| pm (fun _ h => Sb.own (by repeat' (first | with_reducible exact Sb.all | exact Sb.nil | (apply Sb.cons; focus (first | ((repeat (first | with_reducible exact Tk.here | with_reducible apply Tk.there)); done) | ((repeat (first | exact Tk.here | apply Tk.there)); done))) | apply Sb.drop)) h) <| ap (vs := ixv is) (news := [.int .i64 ((L.length : Nat) : Int)]) rfl Tryd.underlying39 zt3 rfl rfl rfl (by omega) (rfl) (by intro v hv; simp only [List.mem_cons, List.not_mem_nil, or_false] at hv; rcases hv with rfl; rfl) ((RdC.of_cel (e := 3) (ws := [.int .i64 ((L.length : Nat) : Int)]) 0 (by simp) (by simp))) (by simp only [maxLen]; omega) (by omega) fun base14 c14 hc14 => ?_
  exact WL.nil <| WX.br <| WPl.barC <| dv (fun g => (vnil rfl)) <| dv (fun g => (vfldp fl54f1 rfl)) <| WD.eff rfl <| stp (v := .slice _ _ _) pl39 sz39 rfl rfl rfl <| WL.nil <| WX.brT <| WPl.finC <| WD.nil <| WX.end0 rfl (((base7, c7), (base14, c14))) (⟨hc7, hc14⟩) rfl (fun w h => by rw [fla_snoc, ixv_cons]; exact Sb.own (by repeat' (first | with_reducible exact Sb.all | exact Sb.nil | (apply Sb.cons; focus (first | ((repeat (first | with_reducible exact Tk.here | with_reducible apply Tk.there)); done) | ((repeat (first | exact Tk.here | apply Tk.there)); done))) | apply Sb.drop)) h)
end Go.Proofs.YtoeglkkmjmhmiaaDoor
