/-
  Layer 4: a number that is read: by the library's Atoi and Itoa.
-/
import Derived.Test.YtoeglkkmjmhmiaaDoorExprSpecD
import Derived.Test.YtoeglkkmjmhmiaaDoorSlLay
import Derived.Test.YtoeglkkmjmhmiaaDoorLayX
import Derived.Lib.LaidTab
import Derived.Lib.ItoaLen
import Derived.Lib.AppendIntMem
import Derived.Lib.AtoiErrMem
set_option linter.unusedVariables false
set_option linter.unusedSimpArgs false
set_option maxRecDepth 4000
namespace Go.Proofs.YtoeglkkmjmhmiaaDoor
open Go.Sl Go.RowKit Go.Expr Go.Shelf

theorem dec_all : ∀ (l : List UInt8) (n : Nat), (∀ c ∈ l, isDig c = true) → Lib.decFrom n l = some (l.foldl (fun n c => 10 * n + (c.toNat - 48)) n)
  | [], n, _ => rfl
  | c :: l, n, h => by
    have hc := h c List.mem_cons_self
    unfold isDig at hc
    have hc2 := of_decide_eq_true hc
    unfold Lib.decFrom Lib.digitVal
    rw [if_pos hc2]
    dsimp only
    rw [dec_all l _ (fun c hc => h c (List.mem_cons_of_mem _ hc)), List.foldl_cons, Nat.mul_comm n 10]
theorem take_all {p : UInt8 → Bool} : ∀ (l : List UInt8) (c : UInt8), c ∈ l.take (runL p l) → p c = true
  | [], c, h => by simp [runL] at h
  | d :: l, c, h => by
    unfold runL at h
    split at h
    · rename_i hd
      rw [List.take_succ_cons] at h
      rcases List.mem_cons.1 h with rfl | h
      · exact hd
      · exact take_all l c h
    · simp at h
theorem dec_take (l : List UInt8) : Lib.decFrom 0 (l.take (runL isDig l)) = some (decN (l.take (runL isDig l))) := dec_all _ 0 (take_all l)
theorem dec_lt {l : List UInt8} (h : runL isDig l ≤ 18) : decN (l.take (runL isDig l)) < 1000000000000000000 :=
  Lib.decFrom_lt18 (dec_take l) (by rw [List.length_take]; omega)
theorem dec_atoi {l : List UInt8} (h : 1 ≤ runL isDig l) : Lib.atoi (bs (l.take (runL isDig l))).data.toList = some ((decN (l.take (runL isDig l)) : Nat) : Int) := by
  have hd := dec_take l
  have ha := take_all (p := isDig) l
  show Lib.atoi (l.take (runL isDig l)) = _
  cases hq : l.take (runL isDig l) with
  | nil =>
    have : min (runL isDig l) l.length = 0 := by rw [← List.length_take, hq]; rfl
    have h2 := runL_le isDig l
    omega
  | cons c t =>
    rw [hq] at hd
    have hc := ha c (by rw [hq]; exact List.mem_cons_self)
    unfold isDig at hc
    have hc2 := of_decide_eq_true hc
    have h45 : (c == 45) = false := by
      cases h : c == 45 with
      | false => rfl
      | true => have := eq_of_beq h; subst this; exact absurd hc2 (by decide)
    have h43 : (c == 43) = false := by
      cases h : c == 43 with
      | false => rfl
      | true => have := eq_of_beq h; subst this; exact absurd hc2 (by decide)
    simp [Lib.atoi, Lib.decNat, h45, h43, hd]
abbrev TabW (w : World) : Prop := Lib.TabIs Tryd.prog w "internal/strconv.uint64pow10" .u64 Lib.pow10Tab
theorem ex_atoi {w0 : World} {A : List HProp} {s : ByteArray} {n : Int} (hl : s.size ≤ 18) (h : Lib.atoi s.data.toList = some n) :
    Fun Tryd.prog w0 56 [.string s] A (Ret w0 (fun _ : Unit => True) (fun _ => .tuple #[.int .i64 n, .nilIface]) (fun _ => A)) := ⟨fun w hw => (Any.strconv_Atoi ly_atoi s n hl h w).mono fun e w' ⟨he, t, hw'⟩ => ⟨(), trivial, he, by
  rw [hw']; exact hw.grown (Lib.bytesWorld_below w _ _)⟩⟩
theorem ex_itoa {w0 : World} {A : List HProp} {n : Nat} (hn : n < 1000000000000000000) (ht : TabW w0) :
    Fun Tryd.prog w0 58 [.int .i64 (n : Int)] A (Ret w0 (fun _ : Unit => True) (fun _ => .string (bs (txt (.num n)))) (fun _ => A)) := ⟨fun w hw => (Any.strconv_Itoa ly_itoa (n : Int) (by omega) (by omega) w (Lib.tabBelow_of_tabIs ht w hw.1)).mono fun e w' ⟨he, k, os, hw'⟩ => ⟨(), trivial, he, by
  rw [hw']; exact hw.grown (Lib.below_grow w.heap.size w (Nat.le_refl _) k os)⟩⟩
abbrev exc (e : Nat) (m : MT) : HProp := cel e [fvOf m, .string (bs (txt m.tr)), .int .i64 (sizeT m.tr : Nat)] 61
abbrev flt (f : Nat) (S : ByteArray) (l : List UInt8) (e : Int) : HProp := cel f [.int .i64 ((S.size - l.length : Nat) : Int), .int .i64 e] 48
def OkR (w0 : World) (r : Nat) (S : ByteArray) (A : List HProp) (x : Tr) (l : List UInt8) (q : Nat) : Ending → World → Prop :=
  Ret w0 (fun i : Nat × MT => i.2.tr = x) (fun i => .tuple #[.pointer (some ⟨i.1, 0, none⟩), .pointer none]) (fun i => exc i.1 i.2 :: hmt i.2 :: src r S l q :: A)
def BadR (w0 : World) (S : ByteArray) (A : List HProp) (l : List UInt8) (e : Int) : Ending → World → Prop :=
  Ret w0 (fun _ : Nat => True) (fun f => .tuple #[.pointer none, .pointer (some ⟨f, 0, none⟩)]) (fun f => flt f S l e :: A)
def AnyR (w0 : World) (r : Nat) (S : ByteArray) (A : List HProp) : Res → Ending → World → Prop
  | .ok (x, l, q) => OkR w0 r S A x l q
  | .error (l, e) => BadR w0 S A l e
theorem ex_number_word {w0 : World} {A : List HProp} {r p : Nat} {S : ByteArray} {l : List UInt8} (hl : l <:+ S.data.toList) (hS : S.size ≤ 4611686018427387903) (hk : 18 < runL isDig l) :
    Fun Tryd.prog w0 37 [.pointer (some ⟨r, 0, none⟩)] (src r S l p :: A) (BadR w0 S A l 40) := by
  unfold BadR
  refine Fun.enter Tryd.func37 rfl Tryd.ntmps37 rfl ?_
  refine WC.seq <| WC.region <| sv (vaP rfl) <| sv (vaP rfl) <| WL.nil <| WX.thenN <| WC.seq <| WC.region <| sv (vmP rfl) <| clx (by repeat' (first | with_reducible exact Sb.all | exact Sb.nil | (apply Sb.cons; focus (first | ((repeat (first | with_reducible exact Tk.here | with_reducible apply Tk.there)); done) | ((repeat (first | exact Tk.here | apply Tk.there)); done))) | apply Sb.drop)) (ex_run hl hS ct55 (fun c A => ex_dig)) ct54 rfl fun r1 hr1 => ?_
  refine sv (vaI rfl) <| WL.nil <| WX.thenN <| WC.seq <| WC.seq <| WC.region <| sv (vmI rfl) <| sv (vgt rfl rfl) <| WL.nil <| WX.thenN <| ?_
  refine WC.ite rfl (fun h1 => ?_) (fun h1 => ?_)
  · -- then
    exact WC.seq <| WC.plan (.pre [0, 1, 2, 3, 4] (.one [6] 5 (.done [7]))) rfl (by kernel_rfl) <| WPl.preC <| dv (fun g => (vmP rfl)) <| dv (fun g => (vnil rfl)) <| dv (fun g => (vfldp fl43f1 rfl)) <| dv (fun g => (vldc pl3 rfl)) <| dv (fun g => (vbd (ps := [(0, .int _ _), (1, (.int .i64 40))]) (cs := [_, _]) bt48 zt48 rfl (by rfl))) <| WD.nil <| WPl.oneE (fun g => by infer_instance) <| dv (fun g => (vaP rfl)) <| WD.eff rfl <| bxc (v := .agg _) (cs := [.int _ _, .int _ _]) rfl rfl fun b4 => WL.nil <| WX.br <| WPl.finC <| dv (fun g => (vaP rfl)) <| WD.nil <| WX.thenN <| WC.ret <| WX.thenR <| WX.ret2 rfl (b4) (trivial) rfl (fun w h => Sb.own (by repeat' (first | with_reducible exact Sb.all | exact Sb.nil | (apply Sb.cons; focus (first | ((repeat (first | with_reducible exact Tk.here | with_reducible apply Tk.there)); done) | ((repeat (first | exact Tk.here | apply Tk.there)); done))) | apply Sb.drop)) h)
  · -- else
    exact absurd (by omega) h1
theorem ex_number_many {w0 : World} {A : List HProp} {r p : Nat} {S : ByteArray} {l : List UInt8} (hl : l <:+ S.data.toList) (hS : S.size ≤ 4611686018427387903) (h0 : 1 ≤ runL isDig l) (hk : runL isDig l ≤ 18) (hp : p = 64) :
    Fun Tryd.prog w0 37 [.pointer (some ⟨r, 0, none⟩)] (src r S l p :: A) (BadR w0 S A l 5) := by
  unfold BadR
  have hll := suf_len hl
  have hrl := runL_le isDig l
  refine Fun.enter Tryd.func37 rfl Tryd.ntmps37 rfl ?_
  refine WC.seq <| WC.region <| sv (vaP rfl) <| sv (vaP rfl) <| WL.nil <| WX.thenN <| WC.seq <| WC.region <| sv (vmP rfl) <| clx (by repeat' (first | with_reducible exact Sb.all | exact Sb.nil | (apply Sb.cons; focus (first | ((repeat (first | with_reducible exact Tk.here | with_reducible apply Tk.there)); done) | ((repeat (first | exact Tk.here | apply Tk.there)); done))) | apply Sb.drop)) (ex_run hl hS ct55 (fun c A => ex_dig)) ct54 rfl fun r1 hr1 => ?_
  refine sv (vaI rfl) <| WL.nil <| WX.thenN <| WC.seq <| WC.seq <| WC.region <| sv (vmI rfl) <| sv (vgt rfl rfl) <| WL.nil <| WX.thenN <| ?_
  refine WC.ite rfl (fun h1 => ?_) (fun h1 => ?_)
  · -- then
    exact absurd h1 (by omega)
  · -- else
    refine WC.skip <| WX.thenN <| WC.seq <| WC.plan (.one [0, 1, 2, 3, 4, 5, 6, 7, 8, 9, 10, 11, 12, 13, 14, 15, 16, 17, 18] 19 (.one [] 20 (.done [21]))) rfl (by kernel_rfl) <| WPl.oneE (fun g => by infer_instance) <| dv (fun g => (vmP rfl)) <| dv (fun g => (vnil rfl)) <| dv (fun g => (vfldpz fl43f0 rfl)) <| dv (fun g => (vldc pl9 rfl)) <| dv (fun g => (vmP rfl)) <| dv (fun g => (vnil rfl)) <| dv (fun g => (vfldp fl43f1 rfl)) <| dv (fun g => (vldc pl3 rfl)) <| dv (fun g => (vmP rfl)) <| dv (fun g => (vnil rfl)) <| dv (fun g => (vfldp fl43f1 rfl)) <| dv (fun g => (vldc pl3 rfl)) <| dv (fun g => (vmI rfl)) <| dv (fun g => (vadd rfl rfl (by omega))) <| dv (fun g => (vw (v' := .string (bs (l.take (runL isDig l)))) (vsslLH Tryd.underlying9 rfl rfl rfl (by omega) (by omega) (by omega)) (by rw [suf_extract (n := runL isDig l) hl (by omega) rfl (by omega)]))) <| dcl (fun g => Fun.quiet (ex_atoi (by show (l.take (runL isDig l)).length ≤ 18; rw [List.length_take]; omega) (dec_atoi h0))) ct56 rfl <| dv (fun g => vmv) <| dv (fun g => (vex rfl rfl)) <| dv (fun g => (vex rfl rfl)) <| WD.eff rfl <| alz (cs := [.int .i64 0]) zt3 (by rfl) fun b11 => WL.nil <| WX.br <| WPl.oneX [cel b11 _ _] (by repeat' (first | exact Spl.nil | (apply Spl.cons; focus (first | ((repeat (first | with_reducible exact Tk.here | with_reducible apply Tk.there)); done) | ((repeat (first | exact Tk.here | apply Tk.there)); done))))) (fun g => by infer_instance) ?_
    refine WD.eff rfl <| stp (v := .int _ _) pl3 sz3 rfl rfl rfl <| WL.nil <| WX.br <| WPl.finC <| dv (fun g => vas) <| WD.nil <| WX.thenN <| WC.seq <| WC.seq <| WC.region <| sv (vmP rfl) <| sv (vmI rfl) <| clx (by repeat' (first | with_reducible exact Sb.all | exact Sb.nil | (apply Sb.cons; focus (first | ((repeat (first | with_reducible exact Tk.here | with_reducible apply Tk.there)); done) | ((repeat (first | exact Tk.here | apply Tk.there)); done))) | apply Sb.drop)) (ex_part_many hp) ct32 rfl fun r13 hr13 => ?_
    refine sv (vaP rfl) <| WL.nil <| WX.thenN <| WC.seq <| WC.region <| sv (vmP rfl) <| sv (vpneT Tryd.underlying44 rfl rfl) <| WL.nil <| WX.thenN <| ?_
    refine WC.tt rfl ?_
    exact WC.seq <| WC.region <| sv (vmP rfl) <| sv (vaP rfl) <| sv (vaP rfl) <| WL.nil <| WX.thenN <| WC.ret <| WX.thenR <| WX.ret2 rfl (r13) (trivial) rfl (fun w h => Sb.own (by repeat' (first | with_reducible exact Sb.all | exact Sb.nil | (apply Sb.cons; focus (first | ((repeat (first | with_reducible exact Tk.here | with_reducible apply Tk.there)); done) | ((repeat (first | exact Tk.here | apply Tk.there)); done))) | apply Sb.drop)) h)
theorem ex_number_ok {w0 : World} {A : List HProp} {r p : Nat} {S : ByteArray} {l : List UInt8} (ht : TabW w0) (hl : l <:+ S.data.toList) (hS : S.size ≤ 4611686018427387903) (h0 : 1 ≤ runL isDig l) (hk : runL isDig l ≤ 18) (hp : p < 64) :
    Fun Tryd.prog w0 37 [.pointer (some ⟨r, 0, none⟩)] (src r S l p :: A) (OkR w0 r S A (.num (decN (l.take (runL isDig l)))) (l.drop (runL isDig l)) (p + 1)) := by
  unfold OkR
  have hll := suf_len hl
  have hrl := runL_le isDig l
  refine Fun.enter Tryd.func37 rfl Tryd.ntmps37 rfl ?_
  refine WC.seq <| WC.region <| sv (vaP rfl) <| sv (vaP rfl) <| WL.nil <| WX.thenN <| WC.seq <| WC.region <| sv (vmP rfl) <| clx (by repeat' (first | with_reducible exact Sb.all | exact Sb.nil | (apply Sb.cons; focus (first | ((repeat (first | with_reducible exact Tk.here | with_reducible apply Tk.there)); done) | ((repeat (first | exact Tk.here | apply Tk.there)); done))) | apply Sb.drop)) (ex_run hl hS ct55 (fun c A => ex_dig)) ct54 rfl fun r1 hr1 => ?_
  refine sv (vaI rfl) <| WL.nil <| WX.thenN <| WC.seq <| WC.seq <| WC.region <| sv (vmI rfl) <| sv (vgt rfl rfl) <| WL.nil <| WX.thenN <| ?_
  refine WC.ite rfl (fun h1 => ?_) (fun h1 => ?_)
  · -- then
    exact absurd h1 (by omega)
  · -- else
    refine WC.skip <| WX.thenN <| WC.seq <| WC.plan (.one [0, 1, 2, 3, 4, 5, 6, 7, 8, 9, 10, 11, 12, 13, 14, 15, 16, 17, 18] 19 (.one [] 20 (.done [21]))) rfl (by kernel_rfl) <| WPl.oneE (fun g => by infer_instance) <| dv (fun g => (vmP rfl)) <| dv (fun g => (vnil rfl)) <| dv (fun g => (vfldpz fl43f0 rfl)) <| dv (fun g => (vldc pl9 rfl)) <| dv (fun g => (vmP rfl)) <| dv (fun g => (vnil rfl)) <| dv (fun g => (vfldp fl43f1 rfl)) <| dv (fun g => (vldc pl3 rfl)) <| dv (fun g => (vmP rfl)) <| dv (fun g => (vnil rfl)) <| dv (fun g => (vfldp fl43f1 rfl)) <| dv (fun g => (vldc pl3 rfl)) <| dv (fun g => (vmI rfl)) <| dv (fun g => (vadd rfl rfl (by omega))) <| dv (fun g => (vw (v' := .string (bs (l.take (runL isDig l)))) (vsslLH Tryd.underlying9 rfl rfl rfl (by omega) (by omega) (by omega)) (by rw [suf_extract (n := runL isDig l) hl (by omega) rfl (by omega)]))) <| dcl (fun g => Fun.quiet (ex_atoi (by show (l.take (runL isDig l)).length ≤ 18; rw [List.length_take]; omega) (dec_atoi h0))) ct56 rfl <| dv (fun g => vmv) <| dv (fun g => (vex rfl rfl)) <| dv (fun g => (vex rfl rfl)) <| WD.eff rfl <| alz (cs := [.int .i64 0]) zt3 (by rfl) fun b11 => WL.nil <| WX.br <| WPl.oneX [cel b11 _ _] (by repeat' (first | exact Spl.nil | (apply Spl.cons; focus (first | ((repeat (first | with_reducible exact Tk.here | with_reducible apply Tk.there)); done) | ((repeat (first | exact Tk.here | apply Tk.there)); done))))) (fun g => by infer_instance) ?_
    refine WD.eff rfl <| stp (v := .int _ _) pl3 sz3 rfl rfl rfl <| WL.nil <| WX.br <| WPl.finC <| dv (fun g => vas) <| WD.nil <| WX.thenN <| WC.seq <| WC.seq <| WC.region <| sv (vmP rfl) <| sv (vmI rfl) <| clx (by repeat' (first | with_reducible exact Sb.all | exact Sb.nil | (apply Sb.cons; focus (first | ((repeat (first | with_reducible exact Tk.here | with_reducible apply Tk.there)); done) | ((repeat (first | exact Tk.here | apply Tk.there)); done))) | apply Sb.drop)) (ex_part_ok hl hS hp hrl) ct32 rfl fun r13 hr13 => ?_
    refine sv (vaP rfl) <| WL.nil <| WX.thenN <| WC.seq <| WC.region <| sv (vmP rfl) <| sv (vpneF Tryd.underlying44 rfl rfl) <| WL.nil <| WX.thenN <| ?_
    refine WC.ff rfl ?_
    refine WC.skip <| WX.thenN <| WC.seq <| WC.region <| sv (vfn rfl) <| sv (vldc pl3 rfl) <| clx (by repeat' (first | with_reducible exact Sb.all | exact Sb.nil | (apply Sb.cons; focus (first | ((repeat (first | with_reducible exact Tk.here | with_reducible apply Tk.there)); done) | ((repeat (first | exact Tk.here | apply Tk.there)); done))) | apply Sb.drop)) (ex_itoa (dec_lt hk) ht) ct58 rfl fun r16 hr16 => ?_
    exact sv (vbd (ps := [(0, .func _ _ _), (1, .string _), (2, (.int .i64 1))]) (cs := [_, _, _]) bt61 zt61 rfl (by rfl)) <| bxc (v := .agg _) (cs := [_, .string _, .int _ _]) rfl rfl fun b18 => sv (vaP rfl) <| sv (vaP rfl) <| WL.nil <| WX.thenN <| WC.ret <| WX.ret2 rfl ((b18, .num (decN (l.take (runL isDig l))) b11)) (rfl) rfl (fun w h => Sb.own (by repeat' (first | with_reducible exact Sb.all | exact Sb.nil | (apply Sb.cons; focus (first | ((repeat (first | with_reducible exact Tk.here | with_reducible apply Tk.there)); done) | ((repeat (first | exact Tk.here | apply Tk.there)); done))) | apply Sb.drop)) h)
end Go.Proofs.YtoeglkkmjmhmiaaDoor
