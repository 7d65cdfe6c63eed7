/-
  Layer 4: the document's values, texts, sizes.
-/
import Derived.Test.YtoeglkkmjmhmiaaDoorExprRefH
import Derived.Test.YtoeglkkmjmhmiaaDoorExprTurn
set_option linter.unusedVariables false
set_option linter.unusedSimpArgs false
set_option maxRecDepth 4000
namespace Go.Proofs.YtoeglkkmjmhmiaaDoor
open Go.Sl Go.RowKit Go.Expr Go.Shelf

theorem w8 (z : Nat) : Value.int .u8 (IntKind.u8.wrap (z : Int)) = u8v (UInt8.ofNat z) := by
  unfold u8v
  rw [IntKind.wrap_u8, UInt8.toNat_ofNat']
  congr 1
def decR (m : Nat) : List UInt8 := if m = 0 then [] else Lib.decDigits m
theorem decR_step {m : Nat} (h : m ≠ 0) : decR m = decR (m / 10) ++ [UInt8.ofNat (48 + m % 10)] := by
  unfold decR
  rw [if_neg h]
  by_cases h10 : m < 10
  · rw [if_pos (by omega), Lib.decDigits_one h10, show m % 10 = m by omega]; rfl
  · rw [if_neg (by omega), Lib.decDigits, dif_neg h10]
theorem dec_len {n : Nat} (hn : n < 1000000000000000000) : (Lib.decDigits n).length ≤ 24 := by
  have := txt_len (x := .num n) (by unfold Sm; exact hn)
  rw [txt_num] at this
  simpa [Expr.sizeT] using this
theorem tdiv10 (m : Nat) : ((m : Nat) : Int).tdiv 10 = ((m / 10 : Nat) : Int) := by rw [Int.tdiv_eq_ediv_of_nonneg (by omega)]; omega
theorem tmod10 (m : Nat) : ((m : Nat) : Int).tmod 10 = ((m % 10 : Nat) : Int) := by rw [Int.tmod_eq_emod_of_nonneg (by omega)]; omega
theorem i64n {m : Nat} (h : m < 1000000000000000000) : IntKind.i64.wrap ((m : Nat) : Int) = (m : Int) := by rw [IntKind.wrap_i64]; omega
theorem ref_dec {w0 : World} {A : List HProp} {n : Nat} (hn : n < 1000000000000000000) : Fun Tryd.prog w0 27 [.int .i64 ((n : Nat) : Int)] A (Ret w0 (fun _ : Unit => True) (fun _ => .string (bs (Lib.decDigits n))) (fun _ => A)) := by
  have hdl := dec_len hn
  refine Fun.enter Tryd.func27 rfl Tryd.ntmps27 rfl ?_
  refine WC.seq <| WC.region <| sv (vaT rfl) <| WL.nil <| WX.thenN <| WC.seq <| WC.seq <| WC.region <| sv (vmI rfl) <| sv (veq rfl rfl) <| WL.nil <| WX.thenN <| ?_
  refine WC.ite rfl (fun h1 => ?_) (fun h1 => ?_)
  · -- then
    exact WC.seq <| WC.region <| sv (vaT rfl) <| WL.nil <| WX.thenN <| WC.ret <| WX.thenR <| WX.ret1 rfl (()) (trivial) (by rw [show n = 0 by omega, Lib.decDigits_one (by omega)]; rfl) (fun _ h => Sb.own (by repeat' (first | with_reducible exact Sb.all | exact Sb.nil | (apply Sb.cons; focus (first | ((repeat (first | with_reducible exact Tk.here | with_reducible apply Tk.there)); done) | ((repeat (first | exact Tk.here | apply Tk.there)); done))) | apply Sb.drop)) h)
  · -- else
    refine WC.skip <| WX.thenN <| WC.seq <| WC.region <| sv (vmI rfl) <| sv (vlt rfl rfl) <| sv (vaB rfl) <| WL.nil <| WX.thenN <| WC.seq <| WC.region <| sv (vaT rfl) <| WL.nil <| WX.thenN <| WC.seq <| WC.block <| ?_
    refine WC.loopS (ι := Nat × List UInt8) (fun k => [(0, .int .i64 ((k.1 : Nat) : Int)), (4, .string (bs k.2))]) [(3, .bool _)] (fun k => k.1 ≤ n ∧ decR k.1 ++ k.2 = Lib.decDigits n) (fun k => k.1) ((n, [])) (⟨Nat.le_refl _, by unfold decR; rw [if_neg (by omega), List.append_nil]⟩) ⟨rfl, rfl, trivial⟩ ⟨rfl, trivial⟩ ?_
    rintro ⟨m, o⟩ ⟨hm, ho⟩ ρh
    dsimp only at hm ho ⊢
    have hol : (bs o).size ≤ 24 := by have := congrArg List.length ho; rw [List.length_append] at this; show o.length ≤ 24; omega
    refine WC.seq <| WC.seq <| WC.region <| sv (vmI rfl) <| sv (vne rfl rfl) <| WL.nil <| WX.thenN <| ?_
    refine WC.ite rfl (fun h2 => ?_) (fun h2 => ?_)
    · -- then
      have hm0 : m ≠ 0 := by omega
      have hst := decR_step hm0
      refine WC.skip <| WX.thenN <| WC.block <| WC.seq <| WC.region <| sv (vmI rfl) <| sv (vw (v' := .int .i64 ((m % 10 : Nat) : Int)) (vrem rfl rfl (by decide)) (iv (tmod10 m))) <| sv (vaI rfl) <| WL.nil <| WX.thenN <| WC.seq <| WC.seq <| WC.region <| sv (vmI rfl) <| sv (vlt rfl rfl) <| WL.nil <| WX.thenN <| ?_
      refine WC.ite rfl (fun h3 => ?_) (fun h3 => ?_)
      · -- then
        exact absurd h3 (by omega)
      · -- else
        exact WC.skip <| WX.thenN <| WC.seq <| WC.region <| sv (vmI rfl) <| sv (vw (v' := .int .i64 ((48 + m % 10 : Nat) : Int)) (vadd rfl rfl (by omega)) (iv (by omega))) <| sv (vw (v' := u8v (UInt8.ofNat (48 + m % 10))) (vcv is3 Tryd.underlying5 rfl) (w8 _)) <| bsln [.int _ _] Tryd.underlying72 zt5 rfl rfl (by intro v hv; simp only [List.mem_cons, List.not_mem_nil, or_false] at hv; rcases hv with rfl <;> rfl) (by simp) fun b4 => sv (vstr (bs := [UInt8.ofNat (48 + m % 10)]) Tryd.underlying72 Tryd.underlying5 Tryd.underlying9 rfl (show RdC w0 _ _ (u8s [UInt8.ofNat (48 + m % 10)]) from reads) rfl) <| sv (vmT rfl) <| sv (vw (v' := .string (bs (UInt8.ofNat (48 + m % 10) :: o))) (vcat rfl rfl (show 1 + (bs o).size ≤ 9223372036854775807 by omega)) rfl) <| sv (vaT rfl) <| WL.nil <| WX.thenN <| WC.region <| sv (vmI rfl) <| sv (vw (v' := .int .i64 ((m / 10 : Nat) : Int)) (vquo rfl rfl (by decide)) (iv (by rw [tdiv10, i64n (by omega)]))) <| sv (vaI rfl) <| WL.nil <| WX.blockN <| WX.again ((m / 10, UInt8.ofNat (48 + m % 10) :: o)) (⟨by dsimp only; omega, by rw [← ho, hst]; simp⟩) (by dsimp only; omega) ⟨rfl, rfl, trivial⟩ ⟨rfl, trivial⟩ (fun _ h => Sb.own (by repeat' (first | with_reducible exact Sb.all | exact Sb.nil | (apply Sb.cons; focus (first | ((repeat (first | with_reducible exact Tk.here | with_reducible apply Tk.there)); done) | ((repeat (first | exact Tk.here | apply Tk.there)); done))) | apply Sb.drop)) h)
    · -- else
      have hm0 : m = 0 := by omega
      subst hm0
      have ho' : o = Lib.decDigits n := by rw [← ho]; rfl
      rw [ho']
      refine WC.exit <| WX.thenE <| WX.thenE <| WX.blockH <| WX.thenN <| WC.seq <| WC.seq <| WC.region <| sv (vmB rfl) <| WL.nil <| WX.thenN <| ?_
      refine WC.ite rfl (fun h4 => ?_) (fun h4 => ?_)
      · -- then
        exact absurd h4 (by omega)
      · -- else
        exact WC.skip <| WX.thenN <| WC.seq <| WC.region <| sv (vmT rfl) <| sv (vaT rfl) <| WL.nil <| WX.thenN <| WC.ret <| WX.ret1 rfl (()) (trivial) rfl (fun _ h => Sb.own (by repeat' (first | with_reducible exact Sb.all | exact Sb.nil | (apply Sb.cons; focus (first | ((repeat (first | with_reducible exact Tk.here | with_reducible apply Tk.there)); done) | ((repeat (first | exact Tk.here | apply Tk.there)); done))) | apply Sb.drop)) h)
/-! ### One value a part -/
def fv {α : Type} (f : α → Value) (z : Value) (T : List α) (i : Nat) : List Value := (T.take i).map f ++ List.replicate (T.length - i) z
section
variable {α : Type} {f : α → Value} {z : Value} {T : List α} {i l : Nat} {x : α}
theorem fv_len : (fv f z T i).length = T.length := by unfold fv; rw [List.length_append, List.length_map, List.length_take, List.length_replicate]; omega
theorem fv_zero : fv f z T 0 = List.replicate T.length z := by simp [fv]
theorem fv_at (h : T[l]? = some x) (hl : l < i) : (fv f z T i)[l]? = some (f x) := by
  have := (List.getElem?_eq_some_iff.1 h).1
  unfold fv
  rw [List.getElem?_append_left (by rw [List.length_map, List.length_take]; omega), List.getElem?_map, List.getElem?_take, if_pos hl, h]; rfl
theorem fv_put {v : Value} (h : T[i]? = some x) (hv : f x = v) : (fv f z T i).set ((i : Nat) : Int).toNat v = fv f z T (i + 1) := by
  obtain ⟨hi, hx⟩ := List.getElem?_eq_some_iff.1 h
  unfold fv
  rw [Int.toNat_natCast, List.set_append_right _ _ (by rw [List.length_map, List.length_take]; omega), List.length_map, List.length_take, show i - min i T.length = 0 by omega]
  rw [show T.length - i = (T.length - (i + 1)) + 1 by omega, List.replicate_succ, List.set_cons_zero, List.take_succ_eq_append_getElem hi, List.map_append, hx, ← hv]
  simp
end
section
variable {T : List Tr} {L : List Nd} {i : Nat} {d : Nd} {t : Tr}
theorem inv_num (h : NdOk T i d t) (ho : d.op = [48]) : ∃ k : Nat, t = .num k ∧ d.n = ((k : Nat) : Int) ∧ k < 1000000000000000000 := by
  cases h with
  | num k h => exact ⟨k, rfl, rfl, h⟩
  | nm c h => dsimp only at ho; rcases h with rfl | rfl | rfl <;> exact absurd ho (by decide)
  | sg neg x l hl hx => dsimp only at ho; cases neg <;> exact absurd ho (by decide)
  | bn o x y l r _ _ _ _ => dsimp only at ho; cases o <;> exact absurd ho (by decide)
theorem inv_nm {c : UInt8} (h : NdOk T i d t) (hc : NmP c) (ho : d.op = [c]) : t = .nm c := by
  cases h with
  | num k h => dsimp only at ho; rcases hc with rfl | rfl | rfl <;> exact absurd ho (by decide)
  | nm c' h => have : [c'] = [c] := ho; cases this; rfl
  | sg neg x l hl hx => dsimp only at ho; rcases hc with rfl | rfl | rfl <;> cases neg <;> exact absurd ho (by decide)
  | bn o x y l r _ _ _ _ => dsimp only at ho; rcases hc with rfl | rfl | rfl <;> cases o <;> exact absurd ho (by decide)
theorem inv_sg {neg : Bool} (h : NdOk T i d t) (ho : d.op = [sgW neg]) : ∃ (x : Tr) (l : Nat), t = .sg neg x ∧ d.l = ((l : Nat) : Int) ∧ l < i ∧ T[l]? = some x := by
  cases h with
  | num k h => dsimp only at ho; cases neg <;> exact absurd ho (by decide)
  | nm c' h => dsimp only at ho; rcases h with rfl | rfl | rfl <;> cases neg <;> exact absurd ho (by decide)
  | sg neg' x l hl hx =>
    have e : [sgW neg'] = [sgW neg] := ho
    obtain rfl : neg' = neg := by cases neg' <;> cases neg <;> first | rfl | exact absurd e (by decide)
    exact ⟨x, l, rfl, rfl, hl, hx⟩
  | bn o x y l r _ _ _ _ => dsimp only at ho; cases neg <;> cases o <;> exact absurd ho (by decide)
theorem inv_bn (h : NdOk T i d t) (h1 : d.op ≠ [48]) (h2 : ∀ c, NmP c → d.op ≠ [c]) (h3 : ∀ neg, d.op ≠ [sgW neg]) : ∃ (o : Bo) (x y : Tr) (l r : Nat), t = .bn o x y ∧ d.op = o.bytes ∧ d.l = ((l : Nat) : Int) ∧ d.r = ((r : Nat) : Int) ∧ l < i ∧ r < i ∧ T[l]? = some x ∧ T[r]? = some y := by
  cases h with
  | num k h => exact absurd rfl h1
  | nm c h => exact absurd rfl (h2 c h)
  | sg neg x l _ _ => exact absurd rfl (h3 neg)
  | bn o x y l r hl hr hx hy => exact ⟨o, x, y, l, r, rfl, rfl, rfl, rfl, hl, hr, hx, hy⟩
theorem nds_sm (h : Nds L T) : ∀ (n i : Nat) (t : Tr), i ≤ n → T[i]? = some t → Sm t := by
  intro n
  induction n with
  | zero =>
    intro i t hi ht
    obtain ⟨d, hd⟩ : ∃ d, L[i]? = some d := ⟨_, List.getElem?_eq_getElem (by rw [h.len]; exact (List.getElem?_eq_some_iff.1 ht).1)⟩
    cases h.ok i d t hd ht with
    | num k hk => exact hk
    | nm c hc => exact hc
    | sg neg x l hl _ => omega
    | bn o x y l r hl _ _ _ => omega
  | succ n ih =>
    intro i t hi ht
    obtain ⟨d, hd⟩ : ∃ d, L[i]? = some d := ⟨_, List.getElem?_eq_getElem (by rw [h.len]; exact (List.getElem?_eq_some_iff.1 ht).1)⟩
    cases h.ok i d t hd ht with
    | num k hk => exact hk
    | nm c hc => exact hc
    | sg neg x l hl hx => exact ih l x (by omega) hx
    | bn o x y l r hl hr hx hy => exact ⟨ih l x (by omega) hx, ih r y (by omega) hy⟩
end
theorem made_fv {α : Type} {f : α → Value} {z : Value} {T : List α} {w0 w : World} {A : List HProp} {b : Nat} {e : TypeId} (hz : z.cells = #[z]) (hl : T.length ≤ maxLen) (H : Own w0 (cel b (madeCells z.cells (T.length * 1)).toList e :: A) w) : Own w0 (row (some ⟨b, 0, none⟩) T.length 1 e (fv f z T 0) :: A) w := by
  rw [made_rep hz, Nat.mul_one] at H
  rw [fv_zero]
  exact H.cel_row (by simp) hl
end Go.Proofs.YtoeglkkmjmhmiaaDoor
