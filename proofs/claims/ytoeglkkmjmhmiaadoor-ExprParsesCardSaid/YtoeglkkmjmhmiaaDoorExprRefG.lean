/-
  Layer 4: a word is taken.
-/
import Derived.Test.YtoeglkkmjmhmiaaDoorExprRefF
set_option linter.unusedVariables false
set_option linter.unusedSimpArgs false
set_option maxRecDepth 4000
namespace Go.Proofs.YtoeglkkmjmhmiaaDoor
open Go.Sl Go.RowKit Go.Expr Go.Shelf

theorem decN_app (l : List UInt8) (c : UInt8) : decN (l ++ [c]) = 10 * decN l + (c.toNat - 48) := by unfold decN; rw [List.foldl_append]; rfl
theorem digB {c : UInt8} (h : isDig c = true) : 48 ≤ c.toNat ∧ c.toNat ≤ 57 := by unfold isDig at h; exact of_decide_eq_true h
theorem decN_lt : ∀ (n : Nat) (l : List UInt8), l.length = n → (∀ c ∈ l, isDig c = true) → decN l < 10 ^ n
  | 0, l, hl, _ => by
    have := List.eq_nil_of_length_eq_zero hl
    subst this
    show (0 : Nat) < 10 ^ 0
    simp
  | n + 1, l, hl, h => by
    have hne : l ≠ [] := fun e => by rw [e] at hl; simp at hl
    have e := List.dropLast_concat_getLast hne
    have h1 := decN_lt n l.dropLast (by rw [List.length_dropLast, hl]; rfl) (fun c hc => h c (List.dropLast_subset l hc))
    have h2 := digB (h _ (List.getLast_mem hne))
    rw [← e, decN_app, Nat.pow_succ]
    omega
theorem dec_step {ds : List UInt8} {i : Nat} (ha : ∀ c ∈ ds, isDig c = true) (hi : i < ds.length) (hl : ds.length ≤ 18) :
    decN (ds.take i) < 100000000000000000 ∧ (48 ≤ (ds.getD i 0).toNat ∧ (ds.getD i 0).toNat ≤ 57) ∧ decN (ds.take (i + 1)) = 10 * decN (ds.take i) + ((ds.getD i 0).toNat - 48) := by
  have h1 := decN_lt i (ds.take i) (by rw [List.length_take]; omega) (fun c hc => ha c (List.mem_of_mem_take hc))
  have h2 : (10 : Nat) ^ i ≤ 10 ^ 17 := Nat.pow_le_pow_right (by omega) (by omega)
  have hg : ds.getD i 0 = ds[i] := by rw [List.getD_eq_getElem?_getD, List.getElem?_eq_getElem hi]; rfl
  refine ⟨by omega, ?_, ?_⟩
  · rw [hg]; exact digB (ha _ (List.getElem_mem hi))
  · rw [List.take_succ_eq_append_getElem hi, decN_app, hg]
theorem u8_dig {a : Nat} (h : 48 ≤ a ∧ a ≤ 57) : IntKind.u8.wrap ((a : Int) - 48) = ((a - 48 : Nat) : Int) := by rw [IntKind.wrap_u8]; omega
theorem i64_nat {a : Nat} (h : a ≤ 57) : IntKind.i64.wrap ((a : Nat) : Int) = (a : Int) := by rw [IntKind.wrap_i64]; omega
abbrev TakeF (w0 : World) (s p : Nat) (w : List UInt8) (wants : Bool) (V : List Tr) (W : List Wt) (V' : List Tr) (W' : List Wt) (A : List HProp) : Prop := Fun Tryd.prog w0 25 [.pointer (some ⟨s, 0, none⟩), .string (bs w), .bool wants] (rsk s p V W :: A) (Ret w0 (fun _ : Unit => True) (fun _ => .tuple #[]) (fun _ => rsk s p V' W' :: A))
theorem rs_take_num {w0 : World} {A : List HProp} {s p : Nat} {V : List Tr} {W : List Wt} {ds : List UInt8} {wants : Bool} (h0 : ds ≠ []) (ha : ∀ c ∈ ds, isDig c = true) (hl : ds.length ≤ 18) (hs : sumT V + W.length ≤ 800) : TakeF w0 s p ds wants V W (.num (decN ds) :: V) W A := by
  have hpos : 0 < ds.length := by cases ds with | nil => exact absurd rfl h0 | cons a b => simp
  have hd : isDig (ds.headD 0) = true := by cases ds with | nil => exact absurd rfl h0 | cons a b => exact ha a List.mem_cons_self
  have hall := decN_lt ds.length ds rfl ha
  have hp18 : (10 : Nat) ^ ds.length ≤ 10 ^ 18 := Nat.pow_le_pow_right (by omega) hl
  have hsz : (bs ds).size = ds.length := rfl
  refine Fun.ex (fun w h => rsk_open h) ?_
  rintro ⟨L, T, is, bL, cL, bV, cV, bW, cW⟩ hi
  obtain ⟨e1, e2, e3⟩ := hi.lens
  have hcapW : W.length ≤ cW := hi.capW
  dsimp only [scl] at e1 e2 e3 ⊢
  refine Fun.enter Tryd.func25 rfl Tryd.ntmps25 rfl ?_
  refine WC.block <| WC.seq <| WC.region <| sv (vmT rfl) <| sv (vixs (c := ds.headD 0) Tryd.underlying9 rfl rfl (by omega) (bs_get0 hpos)) <| clx (by repeat' (first | with_reducible exact Sb.all | exact Sb.nil | (apply Sb.cons; focus (first | ((repeat (first | with_reducible exact Tk.here | with_reducible apply Tk.there)); done) | ((repeat (first | exact Tk.here | apply Tk.there)); done))) | apply Sb.drop)) (ref_digit) ct23 rfl fun r2 hr2 => ?_
  refine sv (vaB rfl) <| WL.nil <| WX.thenN <| ?_
  refine WC.iteb rfl (fun h1 => ?_) (fun h1 => ?_)
  · -- then
    refine WC.seq <| WC.region <| sv (vaI rfl) <| WL.nil <| WX.thenN <| WC.seq <| WC.seq <| WC.region <| sv (vaI rfl) <| WL.nil <| WX.thenN <| WC.block <| ?_
    refine WC.loopS (ι := Nat) (fun i => [(6, .int .i64 ((decN (ds.take i) : Nat) : Int)), (7, .int .i64 ((i : Nat) : Int))]) [(0, .pointer _), (1, .string _)] (fun i => i ≤ ds.length) (fun i => ds.length - i) (0) (by omega) ⟨rfl, rfl, trivial⟩ ⟨rfl, rfl, trivial⟩ ?_
    intro i hil ρh
    refine WC.seq <| WC.seq <| WC.region <| sv (vmI rfl) <| sv (vmT rfl) <| sv (vlens Tryd.underlying9 rfl) <| sv (vlt rfl rfl) <| WL.nil <| WX.thenN <| ?_
    refine WC.ite rfl (fun h2 => ?_) (fun h2 => ?_)
    · -- then
      obtain ⟨g1, g2, g3⟩ := dec_step (i := i) ha (by omega) hl
      exact WC.skip <| WX.thenN <| WC.seq <| WC.block <| WC.region <| sv (vmI rfl) <| sv (vmul rfl rfl (by omega)) <| sv (vmT rfl) <| sv (vmI rfl) <| sv (vixs (c := ds.getD i 0) Tryd.underlying9 rfl rfl (by omega) (bs_get (i := i) (n := i) (by omega) rfl)) <| sv (vw (v' := .int .u8 (((ds.getD i 0).toNat - 48 : Nat) : Int)) (vsubr rfl rfl) (iv (u8_dig g2))) <| sv (vcw is5 Tryd.underlying3 rfl (i64_nat (by omega))) <| sv (vadd rfl rfl (by omega)) <| sv (vaI rfl) <| WL.nil <| WX.blockN <| WX.thenN <| WC.region <| sv (vmI rfl) <| sv (vadd rfl rfl (by omega)) <| sv (vaI rfl) <| WL.nil <| WX.again (i + 1) (by omega) (by omega) ⟨iv (by rw [g3]; omega), rfl, trivial⟩ ⟨rfl, rfl, trivial⟩ (fun _ h => Sb.own (by repeat' (first | with_reducible exact Sb.all | exact Sb.nil | (apply Sb.cons; focus (first | ((repeat (first | with_reducible exact Tk.here | with_reducible apply Tk.there)); done) | ((repeat (first | exact Tk.here | apply Tk.there)); done))) | apply Sb.drop)) h)
    · -- else
      have hir : i = ds.length := by omega
      rw [hir, List.take_length]
      refine WC.exit <| WX.thenE <| WX.thenE <| WX.blockH <| WX.thenN <| WC.region <| sv (vmP rfl) <| sv (vmI rfl) <| sv (vbd (ps := [(0, (.string (ByteArray.mk #[48]))), (1, .int _ _)]) (cs := [_, _, _, _]) bt63 zt63 rfl (by rfl)) <| clx (by repeat' (first | with_reducible exact Sb.all | exact Sb.nil | (apply Sb.cons; focus (first | ((repeat (first | with_reducible exact Tk.here | with_reducible apply Tk.there)); done) | ((repeat (first | exact Tk.here | apply Tk.there)); done))) | apply Sb.drop)) (rs_value (d := ⟨[48], (decN ds : Nat), 0, 0⟩) (by omega) (by omega)) ct35 rfl fun r10 hr10 => ?_
      exact WL.nil <| WX.blockN <| WX.end0 rfl (()) (trivial) rfl (fun w h => by have h2 := rsk_mk (i := ⟨L ++ [⟨[48], (decN ds : Nat), 0, 0⟩], T ++ [.num (decN ds)], L.length :: is, r10.1.1, r10.1.2, r10.2.1, r10.2.2, bW, cW⟩) (hi.push (is' := is) (V' := V) (.num (decN ds) (by omega)) hi.stk (by simp only [sumT, Expr.sizeT]; omega) hr10.1 hr10.2 hcapW (by omega)) (show Own w0 _ w by simp only [List.length_append, List.length_cons, List.length_nil]; exact Own.sp5 (by repeat' (first | exact Spl.nil | (apply Spl.cons; focus (first | ((repeat (first | with_reducible exact Tk.here | with_reducible apply Tk.there)); done) | ((repeat (first | exact Tk.here | apply Tk.there)); done))))) h); exact Sb.own (by repeat' (first | with_reducible exact Sb.all | exact Sb.nil | (apply Sb.cons; focus (first | ((repeat (first | with_reducible exact Tk.here | with_reducible apply Tk.there)); done) | ((repeat (first | exact Tk.here | apply Tk.there)); done))) | apply Sb.drop)) h2)
  · -- else
    exact absurd hd (by rw [h1]; decide)
theorem SRep.wait {V : List Tr} {W W' : List Wt} {i : SI} {bW : Option Addr} {cW : Nat} (hi : SRep V W i) (h3 : W'.length ≤ cW) : SRep V W' ⟨i.L, i.T, i.is, i.bL, i.cL, i.bV, i.cV, bW, cW⟩ := ⟨hi.nds, hi.stk, hi.sum, hi.capL, hi.capV, h3, hi.big⟩
theorem rs_down_to {w0 : World} {A : List HProp} {s p k : Nat} {V V' : List Tr} {W W' : List Wt} (hn : V.length = nbin W + 1) (hs : sumT V + W.length ≤ 800) (hd : downM k W V = (V', W')) :
    Fun Tryd.prog w0 26 [.pointer (some ⟨s, 0, none⟩), .int .i64 (k : Int)] (rsk s p V W :: A) (Ret w0 (fun _ : Unit => True) (fun _ => .tuple #[]) (fun _ => rsk s p V' W' :: A)) := by
  have := rs_down (w0 := w0) (A := A) (s := s) (p := p) (k := k) hn hs
  rwa [hd] at this
theorem rs_take_nm {w0 : World} {A : List HProp} {s p : Nat} {V : List Tr} {W : List Wt} {c : UInt8} {wants : Bool} (hc : NmP c) (hs : sumT V + W.length ≤ 800) : TakeF w0 s p [c] wants V W (.nm c :: V) W A := by
  obtain ⟨hd, hlt, _, _, _, _⟩ := nm_facts hc
  have hsz : (bs [c]).size = 1 := rfl
  refine Fun.ex (fun w h => rsk_open h) ?_
  rintro ⟨L, T, is, bL, cL, bV, cV, bW, cW⟩ hi
  obtain ⟨e1, e2, e3⟩ := hi.lens
  have hcapW : W.length ≤ cW := hi.capW
  dsimp only [scl] at e1 e2 e3 ⊢
  refine Fun.enter Tryd.func25 rfl Tryd.ntmps25 rfl ?_
  refine WC.block <| WC.seq <| WC.region <| sv (vmT rfl) <| sv (vixs (c := c) Tryd.underlying9 rfl rfl (by omega) (bs_get0 (l := [c]) (by simp))) <| clx (by repeat' (first | with_reducible exact Sb.all | exact Sb.nil | (apply Sb.cons; focus (first | ((repeat (first | with_reducible exact Tk.here | with_reducible apply Tk.there)); done) | ((repeat (first | exact Tk.here | apply Tk.there)); done))) | apply Sb.drop)) (ref_digit) ct23 rfl fun r2 hr2 => ?_
  refine sv (vaB rfl) <| WL.nil <| WX.thenN <| ?_
  refine WC.iteb rfl (fun h1 => ?_) (fun h1 => ?_)
  · -- then
    exact absurd h1 (by rw [hd]; decide)
  · -- else
    refine WC.seq <| WC.region <| sv (vmT rfl) <| sv (vixs (c := c) Tryd.underlying9 rfl rfl (by omega) (bs_get0 (l := [c]) (by simp))) <| clx (by repeat' (first | with_reducible exact Sb.all | exact Sb.nil | (apply Sb.cons; focus (first | ((repeat (first | with_reducible exact Tk.here | with_reducible apply Tk.there)); done) | ((repeat (first | exact Tk.here | apply Tk.there)); done))) | apply Sb.drop)) (ref_letter) ct34 rfl fun r12 hr12 => ?_
    refine sv (vaB rfl) <| WL.nil <| WX.thenN <| ?_
    refine WC.iteb rfl (fun h2 => ?_) (fun h2 => ?_)
    · -- then
      refine WC.region <| sv (vmP rfl) <| sv (vmT rfl) <| sv (vbd (ps := [(0, .string _)]) (cs := [_, _, _, _]) bt63 zt63 rfl (by rfl)) <| clx (by repeat' (first | with_reducible exact Sb.all | exact Sb.nil | (apply Sb.cons; focus (first | ((repeat (first | with_reducible exact Tk.here | with_reducible apply Tk.there)); done) | ((repeat (first | exact Tk.here | apply Tk.there)); done))) | apply Sb.drop)) (rs_value (d := ⟨[c], 0, 0, 0⟩) (by omega) (by omega)) ct35 rfl fun r14 hr14 => ?_
      exact WL.nil <| WX.blockN <| WX.end0 rfl (()) (trivial) rfl (fun w h => by have h2 := rsk_mk (i := ⟨L ++ [⟨[c], 0, 0, 0⟩], T ++ [.nm c], L.length :: is, r14.1.1, r14.1.2, r14.2.1, r14.2.2, bW, cW⟩) (hi.push (is' := is) (V' := V) (.nm c hc) hi.stk (by simp only [sumT, Expr.sizeT]; omega) hr14.1 hr14.2 hcapW (by omega)) (show Own w0 _ w by simp only [List.length_append, List.length_cons, List.length_nil]; exact Own.sp5 (by repeat' (first | exact Spl.nil | (apply Spl.cons; focus (first | ((repeat (first | with_reducible exact Tk.here | with_reducible apply Tk.there)); done) | ((repeat (first | exact Tk.here | apply Tk.there)); done))))) h); exact Sb.own (by repeat' (first | with_reducible exact Sb.all | exact Sb.nil | (apply Sb.cons; focus (first | ((repeat (first | with_reducible exact Tk.here | with_reducible apply Tk.there)); done) | ((repeat (first | exact Tk.here | apply Tk.there)); done))) | apply Sb.drop)) h2)
    · -- else
      exact absurd hlt (by rw [h2]; decide)
theorem rs_take_lp {w0 : World} {A : List HProp} {s p : Nat} {V : List Tr} {W : List Wt} {wants : Bool} (hs : sumT V + W.length ≤ 800) : TakeF w0 s p [40] wants V W V (.lp :: W) A := by
  have hsz : (bs [40]).size = 1 := rfl
  have hwl := wtv_len W
  refine Fun.ex (fun w h => rsk_open h) ?_
  rintro ⟨L, T, is, bL, cL, bV, cV, bW, cW⟩ hi
  obtain ⟨e1, e2, e3⟩ := hi.lens
  have hcapW : W.length ≤ cW := hi.capW
  dsimp only [scl] at e1 e2 e3 ⊢
  refine Fun.enter Tryd.func25 rfl Tryd.ntmps25 rfl ?_
  refine WC.block <| WC.seq <| WC.region <| sv (vmT rfl) <| sv (vixs (c := 40) Tryd.underlying9 rfl rfl (by omega) (bs_get0 (l := [40]) (by simp))) <| clx (by repeat' (first | with_reducible exact Sb.all | exact Sb.nil | (apply Sb.cons; focus (first | ((repeat (first | with_reducible exact Tk.here | with_reducible apply Tk.there)); done) | ((repeat (first | exact Tk.here | apply Tk.there)); done))) | apply Sb.drop)) (ref_digit) ct23 rfl fun r2 hr2 => ?_
  refine sv (vaB rfl) <| WL.nil <| WX.thenN <| ?_
  refine WC.iteb rfl (fun h1 => ?_) (fun h1 => ?_)
  · -- then
    exact absurd h1 (by decide)
  · -- else
    refine WC.seq <| WC.region <| sv (vmT rfl) <| sv (vixs (c := 40) Tryd.underlying9 rfl rfl (by omega) (bs_get0 (l := [40]) (by simp))) <| clx (by repeat' (first | with_reducible exact Sb.all | exact Sb.nil | (apply Sb.cons; focus (first | ((repeat (first | with_reducible exact Tk.here | with_reducible apply Tk.there)); done) | ((repeat (first | exact Tk.here | apply Tk.there)); done))) | apply Sb.drop)) (ref_letter) ct34 rfl fun r12 hr12 => ?_
    refine sv (vaB rfl) <| WL.nil <| WX.thenN <| ?_
    refine WC.iteb rfl (fun h2 => ?_) (fun h2 => ?_)
    · -- then
      exact absurd h2 (by decide)
    · -- else
      refine WC.seq <| WC.region <| sv (vmT rfl) <| sv (veqs rfl rfl) <| sv (vaB rfl) <| WL.nil <| WX.thenN <| ?_
      refine WC.ite rfl (fun h3 => ?_) (fun h3 => ?_)
      · -- then
        refine WC.region <| sv (vmP rfl) <| sv (vmP rfl) <| sv (vnil rfl) <| sv (vfldp fl54f2 rfl) <| sv (vldc pl35 rfl) <| pm (fun _ h => Sb.own (by repeat' (first | with_reducible exact Sb.all | exact Sb.nil | (apply Sb.cons; focus (first | ((repeat (first | with_reducible exact Tk.here | with_reducible apply Tk.there)); done) | ((repeat (first | exact Tk.here | apply Tk.there)); done))) | apply Sb.drop)) h) <| ap1 (v := .string _) (vs := wtv W) Tryd.underlying35 zt9 rfl (fun _ => rfl) (fun _ => rfl) rfl rfl rfl (by omega) (by simp only [maxLen]; omega) (by omega) fun _ base17 c17 hc17 => ?_
        exact sv (vnil rfl) <| sv (vfldp fl54f2 rfl) <| stp (v := .slice _ _ _) pl35 sz35 rfl rfl rfl <| WL.nil <| WX.blockN <| WX.end0 rfl (()) (trivial) rfl (fun w h => by have h2 := rsk_mk (i := ⟨L, T, is, bL, cL, bV, cV, base17, c17⟩) (hi.wait (W' := .lp :: W) (by simpa using hc17)) (show Own w0 _ w by rw [wtv_cons]; simp only [List.length_cons]; exact Own.sp5 (by repeat' (first | exact Spl.nil | (apply Spl.cons; focus (first | ((repeat (first | with_reducible exact Tk.here | with_reducible apply Tk.there)); done) | ((repeat (first | exact Tk.here | apply Tk.there)); done))))) h); exact Sb.own (by repeat' (first | with_reducible exact Sb.all | exact Sb.nil | (apply Sb.cons; focus (first | ((repeat (first | with_reducible exact Tk.here | with_reducible apply Tk.there)); done) | ((repeat (first | exact Tk.here | apply Tk.there)); done))) | apply Sb.drop)) h2)
      · -- else
        exact absurd rfl h3
theorem rs_take_rp {w0 : World} {A : List HProp} {s p : Nat} {V : List Tr} {W : List Wt} {V' : List Tr} {W' : List Wt} {wants : Bool} (hn : V.length = nbin W + 1) (hd : downM 1 W V = (V', .lp :: W')) (hs : sumT V + W.length ≤ 800) : TakeF w0 s p [41] wants V W V' W' A := by
  have hsz : (bs [41]).size = 1 := rfl
  have f2 := (down_facts (k := 1) W.length (V := V) rfl hn).2
  rw [hd] at f2
  simp only [List.length_cons] at f2
  refine Fun.enter Tryd.func25 rfl Tryd.ntmps25 rfl ?_
  refine WC.block <| WC.seq <| WC.region <| sv (vmT rfl) <| sv (vixs (c := 41) Tryd.underlying9 rfl rfl (by omega) (bs_get0 (l := [41]) (by simp))) <| clx (by repeat' (first | with_reducible exact Sb.all | exact Sb.nil | (apply Sb.cons; focus (first | ((repeat (first | with_reducible exact Tk.here | with_reducible apply Tk.there)); done) | ((repeat (first | exact Tk.here | apply Tk.there)); done))) | apply Sb.drop)) (ref_digit) ct23 rfl fun r2 hr2 => ?_
  refine sv (vaB rfl) <| WL.nil <| WX.thenN <| ?_
  refine WC.iteb rfl (fun h1 => ?_) (fun h1 => ?_)
  · -- then
    exact absurd h1 (by decide)
  · -- else
    refine WC.seq <| WC.region <| sv (vmT rfl) <| sv (vixs (c := 41) Tryd.underlying9 rfl rfl (by omega) (bs_get0 (l := [41]) (by simp))) <| clx (by repeat' (first | with_reducible exact Sb.all | exact Sb.nil | (apply Sb.cons; focus (first | ((repeat (first | with_reducible exact Tk.here | with_reducible apply Tk.there)); done) | ((repeat (first | exact Tk.here | apply Tk.there)); done))) | apply Sb.drop)) (ref_letter) ct34 rfl fun r12 hr12 => ?_
    refine sv (vaB rfl) <| WL.nil <| WX.thenN <| ?_
    refine WC.iteb rfl (fun h2 => ?_) (fun h2 => ?_)
    · -- then
      exact absurd h2 (by decide)
    · -- else
      refine WC.seq <| WC.region <| sv (vmT rfl) <| sv (veqs rfl rfl) <| sv (vaB rfl) <| WL.nil <| WX.thenN <| ?_
      refine WC.ite rfl (fun h3 => ?_) (fun h3 => ?_)
      · -- then
        exact absurd (bse.1 h3) (by decide)
      · -- else
        refine WC.seq <| WC.region <| sv (vmT rfl) <| sv (veqs rfl rfl) <| sv (vaB rfl) <| WL.nil <| WX.thenN <| ?_
        refine WC.ite rfl (fun h4 => ?_) (fun h4 => ?_)
        · -- then
          refine WC.seq <| WC.region <| sv (vmP rfl) <| clx (by repeat' (first | with_reducible exact Sb.all | exact Sb.nil | (apply Sb.cons; focus (first | ((repeat (first | with_reducible exact Tk.here | with_reducible apply Tk.there)); done) | ((repeat (first | exact Tk.here | apply Tk.there)); done))) | apply Sb.drop)) (rs_down_to (k := 1) hn hs hd) ct26 rfl fun r19 hr19 => ?_
          refine WL.ex (fun w h => rsk_open h) ?_
          rintro ⟨L, T, is, bL, cL, bV, cV, bW, cW⟩ hi
          have hcapW : W'.length + 1 ≤ cW := hi.capW
          have hwl : (Wt.lp :: W').length = W'.length + 1 := rfl
          dsimp only [scl]
          exact WL.nil <| WX.thenN <| WC.plan (.bar [0, 1, 2, 3, 4, 5, 6, 7, 8, 9, 10, 11, 12, 13] 14 (.done [])) rfl (by kernel_rfl) <| WPl.barC <| dv (fun g => (vmP rfl)) <| dv (fun g => (vmP rfl)) <| dv (fun g => (vnil rfl)) <| dv (fun g => (vfldp fl54f2 rfl)) <| dv (fun g => (vldc pl35 rfl)) <| dv (fun g => (vmP rfl)) <| dv (fun g => (vnil rfl)) <| dv (fun g => (vfldp fl54f2 rfl)) <| dv (fun g => (vldc pl35 rfl)) <| dv (fun g => (vlen Tryd.underlying35 rfl)) <| dv (fun g => (vsub rfl rfl (by omega))) <| dv (fun g => (vw (v' := .slice bW W'.length cW) (vslH Tryd.underlying35 sz9 rfl rfl (by simp only [List.length_cons]; omega) (by simp only [List.length_cons]; omega)) (by rw [show (((Wt.lp :: W').length : Nat) : Int) - 1 = (W'.length : Int) by simp only [List.length_cons]; omega, Int.toNat_natCast]))) <| dv (fun g => (vnil rfl)) <| dv (fun g => (vfldp fl54f2 rfl)) <| WD.eff rfl <| stp (v := .slice _ _ _) pl35 sz35 rfl rfl rfl <| WL.nil <| WX.brT <| WPl.finC <| WD.nil <| WX.blockN <| WX.end0 rfl (()) (trivial) rfl (fun w h => by have h1 := pop_wt (x := .lp) (W := W') (bW := bW) (cW := cW) (Own.sp1 (by repeat' (first | exact Spl.nil | (apply Spl.cons; focus (first | ((repeat (first | with_reducible exact Tk.here | with_reducible apply Tk.there)); done) | ((repeat (first | exact Tk.here | apply Tk.there)); done))))) h); have h2 := rsk_mk (i := ⟨L, T, is, bL, cL, bV, cV, bW, cW⟩) (hi.wait (W' := W') (show W'.length ≤ cW by omega)) (Own.sp5 (by repeat' (first | exact Spl.nil | (apply Spl.cons; focus (first | ((repeat (first | with_reducible exact Tk.here | with_reducible apply Tk.there)); done) | ((repeat (first | exact Tk.here | apply Tk.there)); done))))) h1); exact Sb.own (by repeat' (first | with_reducible exact Sb.all | exact Sb.nil | (apply Sb.cons; focus (first | ((repeat (first | with_reducible exact Tk.here | with_reducible apply Tk.there)); done) | ((repeat (first | exact Tk.here | apply Tk.there)); done))) | apply Sb.drop)) h2)
        · -- else
          exact absurd rfl h4
theorem rs_take_neg {w0 : World} {A : List HProp} {s p : Nat} {V : List Tr} {W : List Wt} (hs : sumT V + W.length ≤ 800) : TakeF w0 s p [45] true V W V (.sg true :: W) A := by
  have hsz : (bs [45]).size = 1 := rfl
  have hwl := wtv_len W
  refine Fun.ex (fun w h => rsk_open h) ?_
  rintro ⟨L, T, is, bL, cL, bV, cV, bW, cW⟩ hi
  obtain ⟨e1, e2, e3⟩ := hi.lens
  have hcapW : W.length ≤ cW := hi.capW
  dsimp only [scl] at e1 e2 e3 ⊢
  refine Fun.enter Tryd.func25 rfl Tryd.ntmps25 rfl ?_
  refine WC.block <| WC.seq <| WC.region <| sv (vmT rfl) <| sv (vixs (c := 45) Tryd.underlying9 rfl rfl (by omega) (bs_get0 (l := [45]) (by simp))) <| clx (by repeat' (first | with_reducible exact Sb.all | exact Sb.nil | (apply Sb.cons; focus (first | ((repeat (first | with_reducible exact Tk.here | with_reducible apply Tk.there)); done) | ((repeat (first | exact Tk.here | apply Tk.there)); done))) | apply Sb.drop)) (ref_digit) ct23 rfl fun r2 hr2 => ?_
  refine sv (vaB rfl) <| WL.nil <| WX.thenN <| ?_
  refine WC.iteb rfl (fun h1 => ?_) (fun h1 => ?_)
  · -- then
    exact absurd h1 (by decide)
  · -- else
    refine WC.seq <| WC.region <| sv (vmT rfl) <| sv (vixs (c := 45) Tryd.underlying9 rfl rfl (by omega) (bs_get0 (l := [45]) (by simp))) <| clx (by repeat' (first | with_reducible exact Sb.all | exact Sb.nil | (apply Sb.cons; focus (first | ((repeat (first | with_reducible exact Tk.here | with_reducible apply Tk.there)); done) | ((repeat (first | exact Tk.here | apply Tk.there)); done))) | apply Sb.drop)) (ref_letter) ct34 rfl fun r12 hr12 => ?_
    refine sv (vaB rfl) <| WL.nil <| WX.thenN <| ?_
    refine WC.iteb rfl (fun h2 => ?_) (fun h2 => ?_)
    · -- then
      exact absurd h2 (by decide)
    · -- else
      refine WC.seq <| WC.region <| sv (vmT rfl) <| sv (veqs rfl rfl) <| sv (vaB rfl) <| WL.nil <| WX.thenN <| ?_
      refine WC.ite rfl (fun h3 => ?_) (fun h3 => ?_)
      · -- then
        exact absurd (bse.1 h3) (by decide)
      · -- else
        refine WC.seq <| WC.region <| sv (vmT rfl) <| sv (veqs rfl rfl) <| sv (vaB rfl) <| WL.nil <| WX.thenN <| ?_
        refine WC.ite rfl (fun h4 => ?_) (fun h4 => ?_)
        · -- then
          exact absurd (bse.1 h4) (by decide)
        · -- else
          refine WC.cutS [(83, .bool true)] [(0, .pointer _), (1, .string _), (2, .bool _)] ⟨rfl, rfl, rfl, trivial⟩ ?_ fun ρh => ?_
          · -- ref.go:185
            refine WC.region <| svb (vmB rfl) (fun q1 => ?_) (fun q1 => ?_)
            ·
              exact sv (vmB rfl) <| svg rfl (vmT rfl) <| svg rfl (veqs rfl rfl) <| sv (vpkt rfl) <| sv (vaB rfl) <| WL.nil <| WX.mid () trivial ⟨rfl, trivial⟩ ⟨rfl, rfl, rfl, trivial⟩ (fun _ h => Sb.own (by repeat' (first | with_reducible exact Sb.all | exact Sb.nil | (apply Sb.cons; focus (first | ((repeat (first | with_reducible exact Tk.here | with_reducible apply Tk.there)); done) | ((repeat (first | exact Tk.here | apply Tk.there)); done))) | apply Sb.drop)) h)
            ·
              exact sv (vmB rfl) <| sng rfl <| sng rfl <| sv (vpkf rfl) <| sv (vaB rfl) <| WL.nil <| WX.mid () trivial ⟨(nomatch q1), trivial⟩ ⟨rfl, rfl, rfl, trivial⟩ (fun _ h => Sb.own (by repeat' (first | with_reducible exact Sb.all | exact Sb.nil | (apply Sb.cons; focus (first | ((repeat (first | with_reducible exact Tk.here | with_reducible apply Tk.there)); done) | ((repeat (first | exact Tk.here | apply Tk.there)); done))) | apply Sb.drop)) h)
          refine WC.tt rfl ?_
          refine WC.region <| sv (vmP rfl) <| sv (vmP rfl) <| sv (vnil rfl) <| sv (vfldp fl54f2 rfl) <| sv (vldc pl35 rfl) <| pm (fun _ h => Sb.own (by repeat' (first | with_reducible exact Sb.all | exact Sb.nil | (apply Sb.cons; focus (first | ((repeat (first | with_reducible exact Tk.here | with_reducible apply Tk.there)); done) | ((repeat (first | exact Tk.here | apply Tk.there)); done))) | apply Sb.drop)) h) <| ap1 (v := .string _) (vs := wtv W) Tryd.underlying35 zt9 rfl (fun _ => rfl) (fun _ => rfl) rfl rfl rfl (by omega) (by simp only [maxLen]; omega) (by omega) fun _ base27 c27 hc27 => ?_
          exact sv (vnil rfl) <| sv (vfldp fl54f2 rfl) <| stp (v := .slice _ _ _) pl35 sz35 rfl rfl rfl <| WL.nil <| WX.blockN <| WX.end0 rfl (()) (trivial) rfl (fun w h => by have h2 := rsk_mk (i := ⟨L, T, is, bL, cL, bV, cV, base27, c27⟩) (hi.wait (W' := .sg true :: W) (by simpa using hc27)) (show Own w0 _ w by rw [wtv_cons]; simp only [List.length_cons]; exact Own.sp5 (by repeat' (first | exact Spl.nil | (apply Spl.cons; focus (first | ((repeat (first | with_reducible exact Tk.here | with_reducible apply Tk.there)); done) | ((repeat (first | exact Tk.here | apply Tk.there)); done))))) h); exact Sb.own (by repeat' (first | with_reducible exact Sb.all | exact Sb.nil | (apply Sb.cons; focus (first | ((repeat (first | with_reducible exact Tk.here | with_reducible apply Tk.there)); done) | ((repeat (first | exact Tk.here | apply Tk.there)); done))) | apply Sb.drop)) h2)
theorem rs_take_not {w0 : World} {A : List HProp} {s p : Nat} {V : List Tr} {W : List Wt} (hs : sumT V + W.length ≤ 800) : TakeF w0 s p [33] true V W V (.sg false :: W) A := by
  have hsz : (bs [33]).size = 1 := rfl
  have hwl := wtv_len W
  refine Fun.ex (fun w h => rsk_open h) ?_
  rintro ⟨L, T, is, bL, cL, bV, cV, bW, cW⟩ hi
  obtain ⟨e1, e2, e3⟩ := hi.lens
  have hcapW : W.length ≤ cW := hi.capW
  dsimp only [scl] at e1 e2 e3 ⊢
  refine Fun.enter Tryd.func25 rfl Tryd.ntmps25 rfl ?_
  refine WC.block <| WC.seq <| WC.region <| sv (vmT rfl) <| sv (vixs (c := 33) Tryd.underlying9 rfl rfl (by omega) (bs_get0 (l := [33]) (by simp))) <| clx (by repeat' (first | with_reducible exact Sb.all | exact Sb.nil | (apply Sb.cons; focus (first | ((repeat (first | with_reducible exact Tk.here | with_reducible apply Tk.there)); done) | ((repeat (first | exact Tk.here | apply Tk.there)); done))) | apply Sb.drop)) (ref_digit) ct23 rfl fun r2 hr2 => ?_
  refine sv (vaB rfl) <| WL.nil <| WX.thenN <| ?_
  refine WC.iteb rfl (fun h1 => ?_) (fun h1 => ?_)
  · -- then
    exact absurd h1 (by decide)
  · -- else
    refine WC.seq <| WC.region <| sv (vmT rfl) <| sv (vixs (c := 33) Tryd.underlying9 rfl rfl (by omega) (bs_get0 (l := [33]) (by simp))) <| clx (by repeat' (first | with_reducible exact Sb.all | exact Sb.nil | (apply Sb.cons; focus (first | ((repeat (first | with_reducible exact Tk.here | with_reducible apply Tk.there)); done) | ((repeat (first | exact Tk.here | apply Tk.there)); done))) | apply Sb.drop)) (ref_letter) ct34 rfl fun r12 hr12 => ?_
    refine sv (vaB rfl) <| WL.nil <| WX.thenN <| ?_
    refine WC.iteb rfl (fun h2 => ?_) (fun h2 => ?_)
    · -- then
      exact absurd h2 (by decide)
    · -- else
      refine WC.seq <| WC.region <| sv (vmT rfl) <| sv (veqs rfl rfl) <| sv (vaB rfl) <| WL.nil <| WX.thenN <| ?_
      refine WC.ite rfl (fun h3 => ?_) (fun h3 => ?_)
      · -- then
        exact absurd (bse.1 h3) (by decide)
      · -- else
        refine WC.seq <| WC.region <| sv (vmT rfl) <| sv (veqs rfl rfl) <| sv (vaB rfl) <| WL.nil <| WX.thenN <| ?_
        refine WC.ite rfl (fun h4 => ?_) (fun h4 => ?_)
        · -- then
          exact absurd (bse.1 h4) (by decide)
        · -- else
          refine WC.cutS [(83, .bool false)] [(0, .pointer _), (1, .string _), (2, .bool _)] ⟨rfl, rfl, rfl, trivial⟩ ?_ fun ρh => ?_
          · -- ref.go:185
            refine WC.region <| svb (vmB rfl) (fun q1 => ?_) (fun q1 => ?_)
            ·
              exact sv (vmB rfl) <| svg rfl (vmT rfl) <| svg rfl (veqs rfl rfl) <| sv (vpkt rfl) <| sv (vaB rfl) <| WL.nil <| WX.mid () trivial ⟨rfl, trivial⟩ ⟨rfl, rfl, rfl, trivial⟩ (fun _ h => Sb.own (by repeat' (first | with_reducible exact Sb.all | exact Sb.nil | (apply Sb.cons; focus (first | ((repeat (first | with_reducible exact Tk.here | with_reducible apply Tk.there)); done) | ((repeat (first | exact Tk.here | apply Tk.there)); done))) | apply Sb.drop)) h)
            ·
              exact sv (vmB rfl) <| sng rfl <| sng rfl <| sv (vpkf rfl) <| sv (vaB rfl) <| WL.nil <| WX.mid () trivial ⟨(nomatch q1), trivial⟩ ⟨rfl, rfl, rfl, trivial⟩ (fun _ h => Sb.own (by repeat' (first | with_reducible exact Sb.all | exact Sb.nil | (apply Sb.cons; focus (first | ((repeat (first | with_reducible exact Tk.here | with_reducible apply Tk.there)); done) | ((repeat (first | exact Tk.here | apply Tk.there)); done))) | apply Sb.drop)) h)
          refine WC.ff rfl ?_
          refine WC.seq <| WC.region <| sv (vmB rfl) <| sv (vaB rfl) <| WL.nil <| WX.thenN <| ?_
          refine WC.tt rfl ?_
          refine WC.region <| sv (vmP rfl) <| sv (vmP rfl) <| sv (vnil rfl) <| sv (vfldp fl54f2 rfl) <| sv (vldc pl35 rfl) <| sv (vmT rfl) <| pm (fun _ h => Sb.own (by repeat' (first | with_reducible exact Sb.all | exact Sb.nil | (apply Sb.cons; focus (first | ((repeat (first | with_reducible exact Tk.here | with_reducible apply Tk.there)); done) | ((repeat (first | exact Tk.here | apply Tk.there)); done))) | apply Sb.drop)) h) <| ap1 (v := .string _) (vs := wtv W) Tryd.underlying35 zt9 rfl (fun _ => rfl) (fun _ => rfl) rfl rfl rfl (by omega) (by simp only [maxLen]; omega) (by omega) fun _ base31 c31 hc31 => ?_
          exact sv (vnil rfl) <| sv (vfldp fl54f2 rfl) <| stp (v := .slice _ _ _) pl35 sz35 rfl rfl rfl <| WL.nil <| WX.blockN <| WX.end0 rfl (()) (trivial) rfl (fun w h => by have h2 := rsk_mk (i := ⟨L, T, is, bL, cL, bV, cV, base31, c31⟩) (hi.wait (W' := .sg false :: W) (by simpa using hc31)) (show Own w0 _ w by rw [wtv_cons]; simp only [List.length_cons]; exact Own.sp5 (by repeat' (first | exact Spl.nil | (apply Spl.cons; focus (first | ((repeat (first | with_reducible exact Tk.here | with_reducible apply Tk.there)); done) | ((repeat (first | exact Tk.here | apply Tk.there)); done))))) h); exact Sb.own (by repeat' (first | with_reducible exact Sb.all | exact Sb.nil | (apply Sb.cons; focus (first | ((repeat (first | with_reducible exact Tk.here | with_reducible apply Tk.there)); done) | ((repeat (first | exact Tk.here | apply Tk.there)); done))) | apply Sb.drop)) h2)
theorem rs_take_op {w0 : World} {A : List HProp} {s p : Nat} {V : List Tr} {W : List Wt} (o : Bo) (hn : V.length = nbin W + 1) (hs : sumT V + W.length ≤ 800) : TakeF w0 s p o.bytes false V W (downM o.rank W V).1 (.op o :: (downM o.rank W V).2) A := by
  have hpos : 0 < o.bytes.length := by cases o <;> decide
  have hsz : (bs o.bytes).size = o.bytes.length := rfl
  have hd : isDig (o.bytes.headD 0) = false := by cases o <;> decide
  have hlt : isLet (o.bytes.headD 0) = false := by cases o <;> decide
  have hrk : rankS o.bytes = o.rank := by cases o <;> rfl
  obtain ⟨f1, f2⟩ := down_facts (k := o.rank) W.length (V := V) rfl hn
  obtain ⟨V2, hV2⟩ : ∃ V2, V2 = (downM o.rank W V).1 := ⟨_, rfl⟩
  obtain ⟨W2, hW2⟩ : ∃ W2, W2 = (downM o.rank W V).2 := ⟨_, rfl⟩
  rw [← hV2, ← hW2] at f1 f2 ⊢
  refine Fun.enter Tryd.func25 rfl Tryd.ntmps25 rfl ?_
  refine WC.block <| WC.seq <| WC.region <| sv (vmT rfl) <| sv (vixs (c := o.bytes.headD 0) Tryd.underlying9 rfl rfl (by omega) (bs_get0 hpos)) <| clx (by repeat' (first | with_reducible exact Sb.all | exact Sb.nil | (apply Sb.cons; focus (first | ((repeat (first | with_reducible exact Tk.here | with_reducible apply Tk.there)); done) | ((repeat (first | exact Tk.here | apply Tk.there)); done))) | apply Sb.drop)) (ref_digit) ct23 rfl fun r2 hr2 => ?_
  refine sv (vaB rfl) <| WL.nil <| WX.thenN <| ?_
  refine WC.iteb rfl (fun h1 => ?_) (fun h1 => ?_)
  · -- then
    exact absurd h1 (by rw [hd]; decide)
  · -- else
    refine WC.seq <| WC.region <| sv (vmT rfl) <| sv (vixs (c := o.bytes.headD 0) Tryd.underlying9 rfl rfl (by omega) (bs_get0 hpos)) <| clx (by repeat' (first | with_reducible exact Sb.all | exact Sb.nil | (apply Sb.cons; focus (first | ((repeat (first | with_reducible exact Tk.here | with_reducible apply Tk.there)); done) | ((repeat (first | exact Tk.here | apply Tk.there)); done))) | apply Sb.drop)) (ref_letter) ct34 rfl fun r12 hr12 => ?_
    refine sv (vaB rfl) <| WL.nil <| WX.thenN <| ?_
    refine WC.iteb rfl (fun h2 => ?_) (fun h2 => ?_)
    · -- then
      exact absurd h2 (by rw [hlt]; decide)
    · -- else
      refine WC.seq <| WC.region <| sv (vmT rfl) <| sv (veqs rfl rfl) <| sv (vaB rfl) <| WL.nil <| WX.thenN <| ?_
      refine WC.ite rfl (fun h3 => ?_) (fun h3 => ?_)
      · -- then
        have e : o.bytes = [40] := bse.1 h3; cases o <;> exact absurd e (by decide)
      · -- else
        refine WC.seq <| WC.region <| sv (vmT rfl) <| sv (veqs rfl rfl) <| sv (vaB rfl) <| WL.nil <| WX.thenN <| ?_
        refine WC.ite rfl (fun h4 => ?_) (fun h4 => ?_)
        · -- then
          have e : o.bytes = [41] := bse.1 h4; cases o <;> exact absurd e (by decide)
        · -- else
          refine WC.cutS [(83, .bool false)] [(0, .pointer _), (1, .string _), (2, .bool _)] ⟨rfl, rfl, rfl, trivial⟩ ?_ fun ρh => ?_
          · -- ref.go:185
            refine WC.region <| svb (vmB rfl) (fun q1 => ?_) (fun q1 => ?_)
            ·
              exact sv (vmB rfl) <| svg rfl (vmT rfl) <| svg rfl (veqs rfl rfl) <| sv (vpkt rfl) <| sv (vaB rfl) <| WL.nil <| WX.mid () trivial ⟨(nomatch q1), trivial⟩ ⟨rfl, rfl, rfl, trivial⟩ (fun _ h => Sb.own (by repeat' (first | with_reducible exact Sb.all | exact Sb.nil | (apply Sb.cons; focus (first | ((repeat (first | with_reducible exact Tk.here | with_reducible apply Tk.there)); done) | ((repeat (first | exact Tk.here | apply Tk.there)); done))) | apply Sb.drop)) h)
            ·
              exact sv (vmB rfl) <| sng rfl <| sng rfl <| sv (vpkf rfl) <| sv (vaB rfl) <| WL.nil <| WX.mid () trivial ⟨rfl, trivial⟩ ⟨rfl, rfl, rfl, trivial⟩ (fun _ h => Sb.own (by repeat' (first | with_reducible exact Sb.all | exact Sb.nil | (apply Sb.cons; focus (first | ((repeat (first | with_reducible exact Tk.here | with_reducible apply Tk.there)); done) | ((repeat (first | exact Tk.here | apply Tk.there)); done))) | apply Sb.drop)) h)
          refine WC.ff rfl ?_
          refine WC.seq <| WC.region <| sv (vmB rfl) <| sv (vaB rfl) <| WL.nil <| WX.thenN <| ?_
          refine WC.ff rfl ?_
          refine WC.seq <| WC.region <| sv (vmP rfl) <| sv (vmT rfl) <| clx (by repeat' (first | with_reducible exact Sb.all | exact Sb.nil | (apply Sb.cons; focus (first | ((repeat (first | with_reducible exact Tk.here | with_reducible apply Tk.there)); done) | ((repeat (first | exact Tk.here | apply Tk.there)); done))) | apply Sb.drop)) (ref_rank) ct24 rfl fun r33 hr33 => ?_
          refine clx (by repeat' (first | with_reducible exact Sb.all | exact Sb.nil | (apply Sb.cons; focus (first | ((repeat (first | with_reducible exact Tk.here | with_reducible apply Tk.there)); done) | ((repeat (first | exact Tk.here | apply Tk.there)); done))) | apply Sb.drop)) (rs_down_to (V' := V2) (W' := W2) hn hs (by rw [hrk, hV2, hW2])) ct26 rfl fun r34 hr34 => ?_
          refine WL.ex (fun w h => rsk_open h) ?_
          rintro ⟨L, T, is, bL, cL, bV, cV, bW, cW⟩ hi
          have hwl := wtv_len W2
          dsimp only [scl]
          refine WL.nil <| WX.thenN <| WC.region <| sv (vmP rfl) <| sv (vmP rfl) <| sv (vnil rfl) <| sv (vfldp fl54f2 rfl) <| sv (vldc pl35 rfl) <| sv (vmT rfl) <| pm (fun _ h => Sb.own (by repeat' (first | with_reducible exact Sb.all | exact Sb.nil | (apply Sb.cons; focus (first | ((repeat (first | with_reducible exact Tk.here | with_reducible apply Tk.there)); done) | ((repeat (first | exact Tk.here | apply Tk.there)); done))) | apply Sb.drop)) h) <| ap1 (v := .string _) (vs := wtv W2) Tryd.underlying35 zt9 rfl (fun _ => rfl) (fun _ => rfl) rfl rfl rfl (by omega) (by simp only [maxLen]; omega) (by omega) fun _ base37 c37 hc37 => ?_
          exact sv (vnil rfl) <| sv (vfldp fl54f2 rfl) <| stp (v := .slice _ _ _) pl35 sz35 rfl rfl rfl <| WL.nil <| WX.blockN <| WX.end0 rfl (()) (trivial) rfl (fun w h => by have h2 := rsk_mk (i := ⟨L, T, is, bL, cL, bV, cV, base37, c37⟩) (hi.wait (W' := .op o :: W2) (by simpa using hc37)) (show Own w0 _ w by rw [wtv_cons]; simp only [List.length_cons]; exact Own.sp5 (by repeat' (first | exact Spl.nil | (apply Spl.cons; focus (first | ((repeat (first | with_reducible exact Tk.here | with_reducible apply Tk.there)); done) | ((repeat (first | exact Tk.here | apply Tk.there)); done))))) h); exact Sb.own (by repeat' (first | with_reducible exact Sb.all | exact Sb.nil | (apply Sb.cons; focus (first | ((repeat (first | with_reducible exact Tk.here | with_reducible apply Tk.there)); done) | ((repeat (first | exact Tk.here | apply Tk.there)); done))) | apply Sb.drop)) h2)
/-- a word that may stand there is taken -/
theorem rs_take {w0 : World} {A : List HProp} {s p : Nat} {V V' : List Tr} {W W' : List Wt} {w : List UInt8} {wants : Bool} (h : TakeR w wants V W V' W') (hn : wants = false → V.length = nbin W + 1) (hs : sumT V + W.length ≤ 800) : TakeF w0 s p w wants V W V' W' A := by
  cases h with
  | num h0 ha hl => exact rs_take_num h0 ha hl hs
  | nm hc => exact rs_take_nm hc hs
  | lp => exact rs_take_lp hs
  | neg => exact rs_take_neg hs
  | not => exact rs_take_not hs
  | op o => exact rs_take_op o (hn rfl) hs
  | rp hd => exact rs_take_rp (hn rfl) hd hs
end Go.Proofs.YtoeglkkmjmhmiaaDoor
