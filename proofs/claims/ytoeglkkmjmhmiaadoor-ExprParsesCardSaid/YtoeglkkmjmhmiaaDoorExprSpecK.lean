/-
  Layer 4: Parse as a whole, Text, Size, Eval; the law's first function.
-/
import Derived.Test.YtoeglkkmjmhmiaaDoorExprSpecJ
set_option linter.unusedVariables false
set_option linter.unusedSimpArgs false
set_option maxRecDepth 4000
namespace Go.Proofs.YtoeglkkmjmhmiaaDoor
open Go.Sl Go.RowKit Go.Expr Go.Shelf

theorem ex_parse_of {w0 : World} {A : List HProp} {S : ByteArray} {R : Except (Nat × Int) Tr} (ht : TabW w0) (hR : parseS S.data.toList = R) : Fun Tryd.prog w0 10 [.string S] A (PRes w0 A R) := by
  have hsz : S.data.toList.length = S.size := rfl
  unfold parseS at hR
  by_cases h2 : 200 < S.data.toList.length
  · rw [if_pos h2] at hR
    subst hR
    exact ex_parse_long (by omega)
  · rw [if_neg h2] at hR
    have hS : S.size ≤ 200 := by omega
    have hW : ∀ r A, WHF w0 r S A (AnyR w0 r S A (wholeF (3 * S.data.toList.length + 2) 1 S.data.toList 0)) := fun r A => (ex_whole (r := r) (S := S) ht (by omega) (3 * S.data.toList.length + 2)).whole 1 _ 0 A (List.suffix_refl _) (by omega) (by omega) (by omega) (by omega)
    cases hq : wholeF (3 * S.data.toList.length + 2) 1 S.data.toList 0 with
    | error e =>
      rw [hq] at hR hW
      subst hR
      exact ex_parse_bad hS hW
    | ok x =>
      obtain ⟨x, l2, q⟩ := x
      rw [hq] at hR hW
      dsimp only at hR
      have g := (good _).whole _ _ _ _ _ _ hq
      cases hs : sk l2 with
      | nil =>
        rw [hs, if_pos rfl] at hR
        subst hR
        exact ex_parse_ok hS g.suf hs hW
      | cons c l3 =>
        rw [if_neg (by rw [hs]; simp)] at hR
        subst hR
        exact ex_parse_rest hS g.suf hs hW
theorem parseS_sm {s : List UInt8} {x : Tr} (h : parseS s = .ok x) : Sm x ∧ Expr.sizeT x ≤ 64 ∧ 1 ≤ Expr.sizeT x ∧ s.length ≤ 200 := by
  unfold parseS at h
  split at h
  · cases h
  · split at h
    · cases h
    · rename_i hq
      split at h
      · cases h
        have g := (good _).whole _ _ _ _ _ _ hq
        have g1 := g.size
        have g2 := g.most
        exact ⟨(goodSm _).whole _ _ _ _ _ _ hq, by omega, g.pos, by omega⟩
      · cases h
theorem ex_text {w0 : World} {A : List HProp} {e : Nat} {m : MT} : Fun Tryd.prog w0 13 [.pointer (some ⟨e, 0, none⟩)] (exc e m :: A) (Ret w0 (fun _ : Unit => True) (fun _ => .string (bs (txt m.tr))) (fun _ => exc e m :: A)) := by
  refine Fun.enter Tryd.func13 rfl Tryd.ntmps13 rfl ?_
  refine WC.seq <| WC.region <| sv (vaT rfl) <| WL.nil <| WX.thenN <| WC.seq <| WC.seq <| WC.region <| sv (vmP rfl) <| sv (vpeqF Tryd.underlying22 rfl rfl) <| WL.nil <| WX.thenN <| ?_
  refine WC.ff rfl ?_
  exact WC.skip <| WX.thenN <| WC.seq <| WC.region <| sv (vmP rfl) <| sv (vnil rfl) <| sv (vfldp fl61f1 rfl) <| sv (vldc pl9 rfl) <| sv (vaT rfl) <| WL.nil <| WX.thenN <| WC.ret <| WX.ret1 rfl (()) (trivial) rfl (fun _ h => Sb.own (by repeat' (first | with_reducible exact Sb.all | exact Sb.nil | (apply Sb.cons; focus (first | ((repeat (first | with_reducible exact Tk.here | with_reducible apply Tk.there)); done) | ((repeat (first | exact Tk.here | apply Tk.there)); done))) | apply Sb.drop)) h)
theorem ex_text_nil {w0 : World} {A : List HProp} : Fun Tryd.prog w0 13 [.pointer none] A (Ret w0 (fun _ : Unit => True) (fun _ => .string (bs [])) (fun _ => A)) := by
  refine Fun.enter Tryd.func13 rfl Tryd.ntmps13 rfl ?_
  refine WC.seq <| WC.region <| sv (vaT rfl) <| WL.nil <| WX.thenN <| WC.seq <| WC.seq <| WC.region <| sv (vmP rfl) <| sv (vpeqT Tryd.underlying22 rfl rfl) <| WL.nil <| WX.thenN <| ?_
  refine WC.tt rfl ?_
  exact WC.seq <| WC.region <| sv (vaT rfl) <| WL.nil <| WX.thenN <| WC.ret <| WX.thenR <| WX.ret1 rfl (()) (trivial) rfl (fun _ h => Sb.own (by repeat' (first | with_reducible exact Sb.all | exact Sb.nil | (apply Sb.cons; focus (first | ((repeat (first | with_reducible exact Tk.here | with_reducible apply Tk.there)); done) | ((repeat (first | exact Tk.here | apply Tk.there)); done))) | apply Sb.drop)) h)
theorem ex_size {w0 : World} {A : List HProp} {e : Nat} {m : MT} : Fun Tryd.prog w0 15 [.pointer (some ⟨e, 0, none⟩)] (exc e m :: A) (Ret w0 (fun _ : Unit => True) (fun _ => .int .i64 (Expr.sizeT m.tr : Nat)) (fun _ => exc e m :: A)) := by
  refine Fun.enter Tryd.func15 rfl Tryd.ntmps15 rfl ?_
  refine WC.seq <| WC.region <| sv (vaI rfl) <| WL.nil <| WX.thenN <| WC.seq <| WC.seq <| WC.region <| sv (vmP rfl) <| sv (vpeqF Tryd.underlying22 rfl rfl) <| WL.nil <| WX.thenN <| ?_
  refine WC.ff rfl ?_
  exact WC.skip <| WX.thenN <| WC.seq <| WC.region <| sv (vmP rfl) <| sv (vnil rfl) <| sv (vfldp fl61f2 rfl) <| sv (vldc pl3 rfl) <| sv (vaI rfl) <| WL.nil <| WX.thenN <| WC.ret <| WX.ret1 rfl (()) (trivial) rfl (fun _ h => Sb.own (by repeat' (first | with_reducible exact Sb.all | exact Sb.nil | (apply Sb.cons; focus (first | ((repeat (first | with_reducible exact Tk.here | with_reducible apply Tk.there)); done) | ((repeat (first | exact Tk.here | apply Tk.there)); done))) | apply Sb.drop)) h)
theorem ex_size_nil {w0 : World} {A : List HProp} : Fun Tryd.prog w0 15 [.pointer none] A (Ret w0 (fun _ : Unit => True) (fun _ => .int .i64 0) (fun _ => A)) := by
  refine Fun.enter Tryd.func15 rfl Tryd.ntmps15 rfl ?_
  refine WC.seq <| WC.region <| sv (vaI rfl) <| WL.nil <| WX.thenN <| WC.seq <| WC.seq <| WC.region <| sv (vmP rfl) <| sv (vpeqT Tryd.underlying22 rfl rfl) <| WL.nil <| WX.thenN <| ?_
  refine WC.tt rfl ?_
  exact WC.seq <| WC.region <| sv (vaI rfl) <| WL.nil <| WX.thenN <| WC.ret <| WX.thenR <| WX.ret1 rfl (()) (trivial) rfl (fun _ h => Sb.own (by repeat' (first | with_reducible exact Sb.all | exact Sb.nil | (apply Sb.cons; focus (first | ((repeat (first | with_reducible exact Tk.here | with_reducible apply Tk.there)); done) | ((repeat (first | exact Tk.here | apply Tk.there)); done))) | apply Sb.drop)) h)
theorem ex_evalx {w0 : World} {A : List HProp} {e : Nat} {m : MT} {n t v : Int} (hn : I64 n) (ht : I64 t) (hv : I64 v) (hs : Sm m.tr) : Fun Tryd.prog w0 17 [.pointer (some ⟨e, 0, none⟩), .int .i64 n, .int .i64 t, .int .i64 v] (exc e m :: hmt m :: A) (Ret w0 (fun _ : Unit => True) (fun _ => .int .i64 (evalI n t v m.tr)) (fun _ => exc e m :: hmt m :: A)) := by
  refine Fun.enter Tryd.func17 rfl Tryd.ntmps17 rfl ?_
  refine WC.seq <| WC.region <| sv (vaI rfl) <| WL.nil <| WX.thenN <| WC.seq <| WC.seq <| WC.region <| sv (vmP rfl) <| sv (vpeqF Tryd.underlying22 rfl rfl) <| WL.nil <| WX.thenN <| ?_
  refine WC.ff rfl ?_
  exact WC.skip <| WX.thenN <| WC.seq <| WC.region <| sv (vmP rfl) <| sv (vnil rfl) <| sv (vfldpz fl61f0 rfl) <| sv (vldc pl33 rfl) <| sv (vmI rfl) <| sv (vmI rfl) <| sv (vmI rfl) <| clvx (cap := capOf m) (by repeat' (first | with_reducible exact Sb.all | exact Sb.nil | (apply Sb.cons; focus (first | ((repeat (first | with_reducible exact Tk.here | with_reducible apply Tk.there)); done) | ((repeat (first | exact Tk.here | apply Tk.there)); done))) | apply Sb.drop)) (ex_eval hn ht hv m hs _) (fnOf_call m) rfl rfl fun r3 hr3 => sv (vaI rfl) <| WL.nil <| WX.thenN <| WC.ret <| WX.ret1 rfl (()) (trivial) rfl (fun _ h => Sb.own (by repeat' (first | with_reducible exact Sb.all | exact Sb.nil | (apply Sb.cons; focus (first | ((repeat (first | with_reducible exact Tk.here | with_reducible apply Tk.there)); done) | ((repeat (first | exact Tk.here | apply Tk.there)); done))) | apply Sb.drop)) h)
theorem ex_eval_nil {w0 : World} {A : List HProp} {n t v : Int} : Fun Tryd.prog w0 17 [.pointer none, .int .i64 n, .int .i64 t, .int .i64 v] A (Ret w0 (fun _ : Unit => True) (fun _ => .int .i64 0) (fun _ => A)) := by
  refine Fun.enter Tryd.func17 rfl Tryd.ntmps17 rfl ?_
  refine WC.seq <| WC.region <| sv (vaI rfl) <| WL.nil <| WX.thenN <| WC.seq <| WC.seq <| WC.region <| sv (vmP rfl) <| sv (vpeqT Tryd.underlying22 rfl rfl) <| WL.nil <| WX.thenN <| ?_
  refine WC.tt rfl ?_
  exact WC.seq <| WC.region <| sv (vaI rfl) <| WL.nil <| WX.thenN <| WC.ret <| WX.thenR <| WX.ret1 rfl (()) (trivial) rfl (fun _ h => Sb.own (by repeat' (first | with_reducible exact Sb.all | exact Sb.nil | (apply Sb.cons; focus (first | ((repeat (first | with_reducible exact Tk.here | with_reducible apply Tk.there)); done) | ((repeat (first | exact Tk.here | apply Tk.there)); done))) | apply Sb.drop)) h)
theorem awake1 : parseS [118, 43, 49, 42, 116] = .ok (.bn .add_ (.nm 118) (.bn .mul_ (.num 1) (.nm 116))) := by kernel_rfl
theorem awake2 : parseS [118, 32, 61, 32, 49] = .error (2, 40) := by kernel_rfl
theorem awake3 : parseS [118, 32, 43] = .error (3, 41) := by kernel_rfl
theorem awake4 : bs (txt (.bn .add_ (.nm 118) (.bn .mul_ (.num 1) (.nm 116)))) = bs [40, 118, 32, 43, 32, 40, 49, 32, 42, 32, 116, 41, 41] := by kernel_rfl
end Go.Proofs.YtoeglkkmjmhmiaaDoor
