/-
  Layer 4: the document's reader.
-/
import Derived.Test.YtoeglkkmjmhmiaaDoorExprRefG
import Derived.Test.YtoeglkkmjmhmiaaDoorExprSpecK
set_option linter.unusedVariables false
set_option linter.unusedSimpArgs false
set_option maxRecDepth 4000
namespace Go.Proofs.YtoeglkkmjmhmiaaDoor
open Go.Sl Go.RowKit Go.Expr Go.Shelf

theorem rank_op {w : List UInt8} : (0 < rankS w ∧ rankS w < 6) ↔ ∃ o : Bo, w = o.bytes := by
  constructor
  · intro h
    by_cases h0 : ∃ o : Bo, w = o.bytes
    · exact h0
    · exfalso
      have g : ∀ o : Bo, w ≠ o.bytes := fun o e => h0 ⟨o, e⟩
      have g1 := g .or_; have g2 := g .and_; have g3 := g .eq_; have g4 := g .ne_; have g5 := g .le_; have g6 := g .ge_; have g7 := g .lt_; have g8 := g .gt_; have g9 := g .add_; have g10 := g .sub_; have g11 := g .mul_; have g12 := g .div_; have g13 := g .rem_
      simp only [Bo.bytes, ne_eq] at g1 g2 g3 g4 g5 g6 g7 g8 g9 g10 g11 g12 g13
      unfold rankS at h
      rw [if_neg g1, if_neg g2, if_neg (by rintro (e | e | e | e | e | e) <;> contradiction), if_neg (by rintro (e | e) <;> contradiction), if_neg (by rintro (e | e | e) <;> contradiction)] at h
      split at h <;> omega
  · rintro ⟨o, rfl⟩
    cases o <;> decide
theorem nameB_iff {w : List UInt8} : nameB w = true ↔ w = [110] ∨ w = [116] ∨ w = [118] := by simp [nameB, or_assoc]
theorem numB_head {w : List UInt8} (h : w ≠ []) : isDig (w.headD 0) = numB w := by cases w with | nil => exact absurd rfl h | cons a b => rfl
def fitsE (wants : Bool) (opn : Nat) (w : List UInt8) : Prop := (wants = true ∧ (numB w = true ∨ nameB w = true ∨ (w = [45] ∨ w = [33]) ∨ w = [40])) ∨ (wants = false ∧ ((0 < rankS w ∧ rankS w < 6) ∨ (w = [41] ∧ 0 < opn)))
instance (wants : Bool) (opn : Nat) (w : List UInt8) : Decidable (fitsE wants opn w) := inferInstanceAs (Decidable (_ ∨ _))
theorem fitsE_iff {wants : Bool} {opn : Nat} {w : List UInt8} : fitsE wants opn w ↔ fitsP wants opn w := by
  unfold fitsE fitsP
  rw [rank_op]
  constructor
  · rintro (⟨h, (a | a | (a | a) | a)⟩ | ⟨h, a⟩)
    · exact .inl ⟨h, .inl a⟩
    · exact .inl ⟨h, .inr (.inl a)⟩
    · exact .inl ⟨h, .inr (.inr (.inl a))⟩
    · exact .inl ⟨h, .inr (.inr (.inr (.inl a)))⟩
    · exact .inl ⟨h, .inr (.inr (.inr (.inr a)))⟩
    · exact .inr ⟨h, a⟩
  · rintro (⟨h, (a | a | a | a | a)⟩ | ⟨h, a⟩)
    · exact .inl ⟨h, .inl a⟩
    · exact .inl ⟨h, .inr (.inl a)⟩
    · exact .inl ⟨h, .inr (.inr (.inl (.inl a)))⟩
    · exact .inl ⟨h, .inr (.inr (.inl (.inr a)))⟩
    · exact .inl ⟨h, .inr (.inr (.inr a))⟩
    · exact .inr ⟨h, a⟩
section
variable {l : List UInt8} {wants : Bool} {opn p : Nat} {V : List Tr} {W : List Wt} {R : RM}
theorem run_bad (h : Run l wants opn p V W R) (hs : sk l ≠ []) (hb : wordS (sk l) = [] ∨ ¬ fitsE wants opn (wordS (sk l))) : R = .error (sk l, 40) := by
  have hb' : ¬ (wordS (sk l) ≠ [] ∧ fitsP wants opn (wordS (sk l))) := fun ⟨a, b⟩ => hb.elim a fun c => c (fitsE_iff.2 b)
  cases h with
  | endErr h _ => exact absurd h hs
  | endOk h _ => exact absurd h hs
  | bad _ _ => rfl
  | many _ h0 h2 _ _ => exact absurd ⟨h0, h2⟩ hb'
  | step _ hw h0 h2 _ _ _ _ => subst hw; exact absurd ⟨h0, h2⟩ hb'
theorem run_end_err (h : Run l wants opn p V W R) (hs : sk l = []) (hb : wants = true ∨ 0 < opn) : R = .error ([], 41) := by
  cases h with
  | endErr _ _ => rfl
  | endOk _ _ => rcases hb with hb | hb; cases hb; omega
  | bad h _ => exact absurd hs h
  | many h _ _ _ _ => exact absurd hs h
  | step h _ _ _ _ _ _ _ => exact absurd hs h
theorem run_end_ok (h : Run l wants opn p V W R) (hs : sk l = []) (hb : ¬ (wants = true ∨ 0 < opn)) : ∃ x, R = .ok x ∧ downM 1 W V = ([x], []) := by
  cases h with
  | endErr _ h2 => exact absurd h2 hb
  | endOk _ h2 => exact ⟨_, rfl, h2⟩
  | bad h _ => exact absurd hs h
  | many h _ _ _ _ => exact absurd hs h
  | step h _ _ _ _ _ _ _ => exact absurd hs h
theorem run_many (h : Run l wants opn p V W R) (hs : sk l ≠ []) (hw : wordS (sk l) ≠ []) (hf : fitsE wants opn (wordS (sk l))) (hp : parenB (wordS (sk l)) = false) (h64 : 64 < p + 1) (hp64 : p ≤ 64) : R = .error (sk l, 5) := by
  have hf := fitsE_iff.1 hf
  cases h with
  | endErr h _ => exact absurd h hs
  | endOk h _ => exact absurd h hs
  | bad _ h2 => exact absurd ⟨hw, hf⟩ h2
  | many _ _ _ _ _ => rfl
  | step _ hw' _ _ h3 h4 _ _ => subst hw'; rw [hp] at h3; simp only [Bool.false_eq_true, if_false] at h3; omega
theorem run_next (h : Run l wants opn p V W R) (hs : sk l ≠ []) (hw : wordS (sk l) ≠ []) (hf : fitsE wants opn (wordS (sk l))) {p' : Nat} (hp : p' = if parenB (wordS (sk l)) then p else p + 1) (h64 : p' ≤ 64) :
    ∃ V' W', TakeR (wordS (sk l)) wants V W V' W' ∧ Run ((sk l).drop (wordS (sk l)).length) (wantsN (wordS (sk l)) wants) (openN (wordS (sk l)) opn) p' V' W' R := by
  have hf := fitsE_iff.1 hf
  cases h with
  | endErr h _ => exact absurd h hs
  | endOk h _ => exact absurd h hs
  | bad _ h2 => exact absurd ⟨hw, hf⟩ h2
  | many _ _ _ h3 h4 => rw [h3] at hp; simp only [Bool.false_eq_true, if_false] at hp; omega
  | step _ hw' _ _ h3 h4 h5 h6 => subst hw'; subst hp; subst h3; exact ⟨_, _, h5, h6⟩
end
theorem paren_iff {w : List UInt8} : parenB w = true ↔ w = [40] ∨ w = [41] := by simp [parenB]
theorem wordS_le (l : List UInt8) : (wordS l).length ≤ l.length := by
  unfold wordS
  have h1 := runL_le isDig l
  have h2 := runL_le isLet l
  split
  · split
    · simp
    · rw [List.length_take]; omega
  · split
    · split
      · simp
      · rw [List.length_take]; omega
    · cases hq : wd l with
      | none_ => simp [Wd.bytes]
      | bin o => have := wd_len hq; show o.bytes.length ≤ _; omega
      | not_ => cases l with | nil => cases hq | cons a b => simp [Wd.bytes]
      | lp => cases l with | nil => cases hq | cons a b => simp [Wd.bytes]
      | rp => cases l with | nil => cases hq | cons a b => simp [Wd.bytes]
/-- the parts of a tree that is read, as a chunk of memory -/
structure RX where
  L : List Nd
  T : List Tr
  bL : Option Addr
  cL : Nat
  r : Nat
structure XRep (t : Tr) (i : RX) : Prop where
  nds : Nds i.L i.T
  root : i.T[i.r]? = some t
  size : i.L.length = Expr.sizeT t
  cap : i.L.length ≤ i.cL
  big : ∀ t ∈ i.T, Expr.sizeT t ≤ 1000
def rex (x : Nat) (t : Tr) : HProp := fun h => ∃ i : RX, XRep t i ∧ star (cel x [.slice i.bL i.L.length i.cL, .int .i64 (i.r : Nat)] 52) (row i.bL i.cL 4 63 (fla ndv i.L)) h
theorem rex_open {w0 w : World} {A : List HProp} {x : Nat} {t : Tr} (H : Own w0 (rex x t :: A) w) :
    ∃ i : RX, XRep t i ∧ Own w0 (cel x [.slice i.bL i.L.length i.cL, .int .i64 (i.r : Nat)] 52 :: row i.bL i.cL 4 63 (fla ndv i.L) :: A) w := by
  obtain ⟨hb, h, ⟨h1, h2, ⟨i, hi, a⟩, a2, dd, y⟩, hw⟩ := H
  have h3 : Own w0 (star (cel x [.slice i.bL i.L.length i.cL, .int .i64 (i.r : Nat)] 52) (row i.bL i.cL 4 63 (fla ndv i.L)) :: A) w := ⟨hb, h, ⟨h1, h2, a, a2, dd, y⟩, hw⟩
  exact ⟨i, hi, h3.star⟩
theorem rex_mk {w0 w : World} {A : List HProp} {x : Nat} {t : Tr} {i : RX} (hi : XRep t i) (H : Own w0 (cel x [.slice i.bL i.L.length i.cL, .int .i64 (i.r : Nat)] 52 :: row i.bL i.cL 4 63 (fla ndv i.L) :: A) w) : Own w0 (rex x t :: A) w := H.intro_star.head fun _ h => ⟨i, hi, h⟩
def RRes (w0 : World) (A : List HProp) : Except (Nat × Int) Tr → Ending → World → Prop
  | .error (k, e) => PBad w0 A k e
  | .ok x => Ret w0 (fun _ : Nat => True) (fun p => .tuple #[.pointer (some ⟨p, 0, none⟩), .int .i64 0, .int .i64 0]) (fun p => rex p x :: A)
structure PI where
  l : List UInt8
  wants : Bool
  opn : Nat
  p : Nat
  V : List Tr
  W : List Wt
structure PInv (S : List UInt8) (R : RM) (i : PI) : Prop where
  run : Run i.l i.wants i.opn i.p i.V i.W R
  bal : Bal i.wants i.V i.W i.l.length
  p64 : i.p ≤ 64
  suf : i.l <:+ S
  opn : i.opn + i.l.length ≤ 200
theorem openN_le {w : List UInt8} {opn : Nat} (h : w ≠ []) : openN w opn ≤ opn + w.length := by
  have : 1 ≤ w.length := by cases w with | nil => exact absurd rfl h | cons a b => simp
  unfold openN
  split
  · omega
  · split <;> omega
theorem ref_parse_run {w0 : World} {A : List HProp} {S : ByteArray} {R : RM} (hS : S.size ≤ 200) (hR : Run S.data.toList true 0 0 [] [] R) : Fun Tryd.prog w0 11 [.string S] A (RRes w0 A (posR S.data.toList R)) := by
  have hlen : S.data.toList.length = S.size := rfl
  refine Fun.enter Tryd.func11 rfl Tryd.ntmps11 rfl ?_
  refine WC.seq <| WC.region <| sv (vaP rfl) <| sv (vaI rfl) <| sv (vaI rfl) <| WL.nil <| WX.thenN <| WC.seq <| WC.seq <| WC.region <| sv (vmT rfl) <| sv (vlens Tryd.underlying9 rfl) <| sv (vgt rfl rfl) <| WL.nil <| WX.thenN <| ?_
  refine WC.ite rfl (fun h1 => ?_) (fun h1 => ?_)
  · -- then
    exact absurd h1 (by omega)
  · -- else
    refine WC.skip <| WX.thenN <| WC.seq <| WC.region <| sv (vbd (ps := []) (cs := [_, _]) bt52 zt52 rfl (by rfl)) <| bxc (v := .agg _) (cs := [.slice _ _ _, .int _ _]) rfl rfl fun b2 => sv (vbd (ps := [(0, .pointer _)]) (cs := [_, _, _]) bt54 zt54 rfl (by rfl)) <| bxc (v := .agg _) (cs := [.pointer _, .slice _ _ _, .slice _ _ _]) rfl rfl fun b4 => sv (vaP rfl) <| WL.nil <| WX.thenN <| WC.seq <| WC.region <| sv (vaB rfl) <| WL.nil <| WX.thenN <| WC.seq <| WC.region <| sv (vaI rfl) <| WL.nil <| WX.thenN <| WC.seq <| WC.region <| sv (vaI rfl) <| WL.nil <| WX.thenN <| WC.seq <| WC.region <| sv (vaI rfl) <| WL.nil <| WX.thenN <| WC.seq <| WC.block <| ?_
    refine WC.loop (ι := PI) (fun k => [(6, .bool k.wants), (7, .int .i64 ((k.opn : Nat) : Int)), (8, .int .i64 ((k.p : Nat) : Int)), (9, .int .i64 (((S.size - k.l.length : Nat)) : Int))]) [(0, .string _), (5, .pointer _)] (fun k => rsk b4 b2 k.V k.W :: A) (fun k => PInv S.data.toList R k) (fun k => k.l.length) (⟨S.data.toList, true, 0, 0, [], []⟩) (⟨hR, ⟨rfl, by simp [sumT]; omega⟩, by simp, List.suffix_refl _, by simp; omega⟩) ⟨rfl, rfl, rfl, iv (by show (0 : Int) = ((S.size - S.data.toList.length : Nat) : Int); omega), trivial⟩ ⟨rfl, rfl, trivial⟩ (fun w h => by have h2 := rsk_mk (i := ⟨[], [], [], none, 0, none, 0, none, 0⟩) (V := []) (W := []) (s := b4) (x := b2) ⟨Nds.nil, trivial, rfl, Nat.le_refl _, Nat.le_refl _, Nat.le_refl _, fun t h => by simp at h⟩ ((((h.intro_row_nil (s := 1) (e := 9)).intro_row_nil (s := 1) (e := 3)).intro_row_nil (s := 4) (e := 63)).ix [3, 4, 0, 1, 2]); exact h2) ?_
    rintro ⟨l, wants, opn, p, V, W⟩ ⟨hrun, hbal, hp64, hsuf, hopn⟩ ρh
    dsimp only at hrun hbal hp64 hsuf hopn ⊢
    have hll := suf_len hsuf
    refine WC.block <| WC.seq <| WC.block <| ?_
    refine WC.loopS (ι := List UInt8) (fun j => [(9, .int .i64 (((S.size - j.length : Nat)) : Int))]) [(0, .string _), (5, .pointer _), (6, .bool _), (7, .int _ _), (8, .int _ _)] (fun j => sk j = sk l ∧ j <:+ S.data.toList) (fun j => j.length) (l) (⟨rfl, hsuf⟩) ⟨rfl, trivial⟩ ⟨rfl, rfl, rfl, rfl, rfl, trivial⟩ ?_
    rintro j ⟨hj1, hj2⟩ ρh
    have hil := suf_len hj2
    refine WC.seq <| ?_
    refine WC.cutS [(32, .bool (decide (0 < j.length ∧ j.headD 0 = 32)))] [(0, .string _), (5, .pointer _), (6, .bool _), (7, .int _ _), (8, .int _ _), (9, .int _ _)] ⟨rfl, rfl, rfl, rfl, rfl, rfl, trivial⟩ ?_ fun ρh => ?_
    · -- ref.go:127
      refine WC.region <| sv (vmI rfl) <| sv (vmT rfl) <| sv (vlens Tryd.underlying9 rfl) <| svs (vlt rfl rfl) (fun q1 => ?_) (fun q1 => ?_)
      ·
        exact sv (vmB rfl) <| svg rfl (vmT rfl) <| svg rfl (vmI rfl) <| svg rfl (vixs Tryd.underlying9 rfl rfl (by omega) (by rw [← getD0]; exact suf_get (n := 0) hj2 (by omega) (by simp []))) <| svg rfl (veq rfl rfl) <| sv (vpkt rfl) <| WL.nil <| WX.mid () trivial ⟨bI ⟨fun h => ⟨by omega, u8_eq32 h⟩, fun h => by rw [h.2]; rfl⟩, trivial⟩ ⟨rfl, rfl, rfl, rfl, rfl, rfl, trivial⟩ (fun _ h => Sb.own (by repeat' (first | with_reducible exact Sb.all | exact Sb.nil | (apply Sb.cons; focus (first | ((repeat (first | with_reducible exact Tk.here | with_reducible apply Tk.there)); done) | ((repeat (first | exact Tk.here | apply Tk.there)); done))) | apply Sb.drop)) h)
      ·
        exact sv (vmB rfl) <| sng rfl <| sng rfl <| sng rfl <| sng rfl <| sv (vpkf rfl) <| WL.nil <| WX.mid () trivial ⟨bF (by first | omega | simp_all | grind), trivial⟩ ⟨rfl, rfl, rfl, rfl, rfl, rfl, trivial⟩ (fun _ h => Sb.own (by repeat' (first | with_reducible exact Sb.all | exact Sb.nil | (apply Sb.cons; focus (first | ((repeat (first | with_reducible exact Tk.here | with_reducible apply Tk.there)); done) | ((repeat (first | exact Tk.here | apply Tk.there)); done))) | apply Sb.drop)) h)
    refine WC.ite rfl (fun h2 => ?_) (fun h2 => ?_)
    · -- then
      obtain ⟨hp, hh⟩ := h2
      have ht := head_tail hp
      have htl : j.tail.length + 1 = j.length := by have := congrArg List.length ht; simpa using this.symm
      have hats : ((S.size - (j.tail).length : Nat) : Int) = ((S.size - (j).length : Nat) : Int) + 1 := by omega
      exact WC.skip <| WX.thenN <| WC.block <| WC.region <| sv (vmI rfl) <| sv (vadd rfl rfl (by omega)) <| sv (vaI rfl) <| WL.nil <| WX.blockN <| WX.again (j.tail) (⟨by rw [← hj1, ht, hh]; rfl, (List.tail_suffix j).trans hj2⟩) (by omega) ⟨iv hats.symm, trivial⟩ ⟨rfl, rfl, rfl, rfl, rfl, trivial⟩ (fun _ h => Sb.own (by repeat' (first | with_reducible exact Sb.all | exact Sb.nil | (apply Sb.cons; focus (first | ((repeat (first | with_reducible exact Tk.here | with_reducible apply Tk.there)); done) | ((repeat (first | exact Tk.here | apply Tk.there)); done))) | apply Sb.drop)) h)
    · -- else
      have hsk : sk l = j := by
        rw [← hj1]
        cases j with
        | nil => rfl
        | cons c t => exact sk_cons fun e => h2 ⟨by simp, e⟩
      subst hsk
      have hsl := sk_length' l
      refine WC.exit <| WX.thenE <| WX.thenE <| WX.blockH <| WX.thenN <| WC.seq <| WC.seq <| WC.region <| sv (vmI rfl) <| sv (vmT rfl) <| sv (vlens Tryd.underlying9 rfl) <| sv (veq rfl rfl) <| WL.nil <| WX.thenN <| ?_
      refine WC.ite rfl (fun h3 => ?_) (fun h3 => ?_)
      · -- then
        have hs0 : sk l = [] := List.eq_nil_of_length_eq_zero (by omega)
        refine WC.exit <| WX.thenE <| WX.blockE rfl <| WX.thenE <| WX.blockH <| WX.thenN <| WC.seq <| ?_
        refine WC.cutS [(151, .bool (decide (wants = true ∨ 0 < opn)))] [(0, .string _), (5, .pointer _)] ⟨rfl, rfl, trivial⟩ ?_ fun ρh => ?_
        · -- ref.go:161
          refine WC.region <| svb (vmB rfl) (fun q2 => ?_) (fun q2 => ?_)
          ·
            exact sv (vmB rfl) <| sng rfl <| sng rfl <| sv (vpkt rfl) <| WL.nil <| WX.mid () trivial ⟨bT (.inl q2), trivial⟩ ⟨rfl, rfl, trivial⟩ (fun _ h => Sb.own (by repeat' (first | with_reducible exact Sb.all | exact Sb.nil | (apply Sb.cons; focus (first | ((repeat (first | with_reducible exact Tk.here | with_reducible apply Tk.there)); done) | ((repeat (first | exact Tk.here | apply Tk.there)); done))) | apply Sb.drop)) h)
          ·
            exact sv (vmB rfl) <| svg rfl (vmI rfl) <| svg rfl (vgt rfl rfl) <| sv (vpkf rfl) <| WL.nil <| WX.mid () trivial ⟨bI ⟨fun h => .inr (by omega), fun h => by rcases h with h | h; rw [q2] at h; cases h; omega⟩, trivial⟩ ⟨rfl, rfl, trivial⟩ (fun _ h => Sb.own (by repeat' (first | with_reducible exact Sb.all | exact Sb.nil | (apply Sb.cons; focus (first | ((repeat (first | with_reducible exact Tk.here | with_reducible apply Tk.there)); done) | ((repeat (first | exact Tk.here | apply Tk.there)); done))) | apply Sb.drop)) h)
        refine WC.ite rfl (fun h4 => ?_) (fun h4 => ?_)
        · -- then
          obtain rfl := run_end_err hrun hs0 h4
          exact WC.seq <| WC.region <| sv (vmT rfl) <| sv (vlens Tryd.underlying9 rfl) <| sv (vaP rfl) <| sv (vaI rfl) <| sv (vaI rfl) <| WL.nil <| WX.thenN <| WC.ret <| WX.thenR <| WX.ret3 rfl (()) (trivial) rfl (fun _ h => Sb.own (by repeat' (first | with_reducible exact Sb.all | exact Sb.nil | (apply Sb.cons; focus (first | ((repeat (first | with_reducible exact Tk.here | with_reducible apply Tk.there)); done) | ((repeat (first | exact Tk.here | apply Tk.there)); done))) | apply Sb.drop)) h)
        · -- else
          obtain ⟨x, rfl, hd⟩ := run_end_ok hrun hs0 h4
          have hbin := hbal.bin
          have hsum := hbal.sum
          have hw0 : wants = false := by cases wants with | true => exact absurd (.inl rfl) h4 | false => rfl
          rw [hw0] at hbin
          have hdf := (down_facts (k := 1) W.length (V := V) rfl (by simpa using hbin))
          rw [hd] at hdf
          refine WC.skip <| WX.thenN <| WC.seq <| WC.region <| sv (vmP rfl) <| clx (by repeat' (first | with_reducible exact Sb.all | exact Sb.nil | (apply Sb.cons; focus (first | ((repeat (first | with_reducible exact Tk.here | with_reducible apply Tk.there)); done) | ((repeat (first | exact Tk.here | apply Tk.there)); done))) | apply Sb.drop)) (rs_down_to (k := 1) (V' := [x]) (W' := []) (by simpa using hbin) (by omega) hd) ct26 rfl fun r18 hr18 => ?_
          refine WL.ex (fun w h => rsk_open h) ?_
          rintro ⟨L, T, is, bL, cL, bV, cV, bW, cW⟩ ⟨nds, stk, sum, c1, c2, c3, big⟩
          dsimp only [scl] at nds stk sum c1 c2 c3 ⊢
          obtain ⟨i0, rfl⟩ : ∃ i0, is = [i0] := by have := stk.len; match is, this with | [i0], _ => exact ⟨i0, rfl⟩
          have hst := stk.1
          exact WL.nil <| WX.thenN <| WC.seq <| WC.plan (.bar [0, 1, 2, 3, 4, 5, 6, 7, 8, 9, 10, 11] 12 (.done [])) rfl (by kernel_rfl) <| WPl.barC <| dv (fun g => (vmP rfl)) <| dv (fun g => (vnil rfl)) <| dv (fun g => (vfldpz fl54f0 rfl)) <| dv (fun g => (vldc pl26 rfl)) <| dv (fun g => (vmP rfl)) <| dv (fun g => (vnil rfl)) <| dv (fun g => (vfldp fl54f1 rfl)) <| dv (fun g => (vldc pl39 rfl)) <| dv (fun g => (vix1 Tryd.underlying39 sz3 rfl rfl (by omega) (by simp) reads (by rw [ixv_len]; simp))) <| dv (fun g => (vldr pl3 rfl (ixv_top (i := i0) (l := []) rfl))) <| dv (fun g => (vnil rfl)) <| dv (fun g => (vfldp fl52f1 rfl)) <| WD.eff rfl <| stp (v := .int _ _) pl3 sz3 rfl rfl rfl <| WL.nil <| WX.brT <| WPl.finC <| WD.nil <| WX.thenN <| WC.seq <| WC.region <| sv (vmP rfl) <| sv (vnil rfl) <| sv (vfldpz fl54f0 rfl) <| sv (vldc pl26 rfl) <| sv (vaP rfl) <| sv (vaI rfl) <| sv (vaI rfl) <| WL.nil <| WX.thenN <| WC.ret <| WX.ret3 rfl (b2) (trivial) rfl (fun w h => by have h2 := rex_mk (x := b2) (t := x) (i := ⟨L, T, bL, cL, i0⟩) ⟨nds, hst, by rw [nds.len, sum]; simp [sumT], c1, big⟩ (Own.sp2 (by repeat' (first | exact Spl.nil | (apply Spl.cons; focus (first | ((repeat (first | with_reducible exact Tk.here | with_reducible apply Tk.there)); done) | ((repeat (first | exact Tk.here | apply Tk.there)); done))))) h); exact Sb.own (by repeat' (first | with_reducible exact Sb.all | exact Sb.nil | (apply Sb.cons; focus (first | ((repeat (first | with_reducible exact Tk.here | with_reducible apply Tk.there)); done) | ((repeat (first | exact Tk.here | apply Tk.there)); done))) | apply Sb.drop)) h2)
      · -- else
        have hs1 : sk l ≠ [] := fun e => h3 (by rw [e]; simp)
        have hs2 := (sk_suffix l).trans hsuf
        obtain ⟨u, hu⟩ : ∃ u, u = wordS (sk l) := ⟨_, rfl⟩
        have hul := wordS_le (sk l)
        rw [← hu] at hul
        have husz : (bs u).size = u.length := rfl
        refine WC.skip <| WX.thenN <| WC.seq <| WC.region <| sv (vmT rfl) <| sv (vmI rfl) <| sv (vw (v' := .string (bs (sk l))) (vsslL Tryd.underlying9 rfl rfl (by omega) (by omega)) (congrArg Value.string ((suf_extract (j := (S.size : Int)) (n := (sk l).length) hs2 (Nat.le_refl _) rfl (by omega)).trans (by rw [List.take_length])))) <| clx (by repeat' (first | with_reducible exact Sb.all | exact Sb.nil | (apply Sb.cons; focus (first | ((repeat (first | with_reducible exact Tk.here | with_reducible apply Tk.there)); done) | ((repeat (first | exact Tk.here | apply Tk.there)); done))) | apply Sb.drop)) ((show Fun Tryd.prog w0 22 [.string (bs (sk l))] _ (Ret w0 (fun _ : Unit => True) (fun _ => .string (bs u)) (fun _ => _)) from by rw [hu]; exact ref_word (by omega))) ct22 rfl fun r8 hr8 => ?_
        refine sv (vaT rfl) <| WL.nil <| WX.thenN <| ?_
        refine WC.cutS [(11, .bool (decide (numB u = true)))] [(0, .string _), (5, .pointer _), (6, .bool _), (7, .int _ _), (8, .int _ _), (9, .int _ _), (10, .string _)] ⟨rfl, rfl, rfl, rfl, rfl, rfl, rfl, trivial⟩ ?_ fun ρh => ?_
        · -- ref.go:134
          refine WC.region <| sv (vmT rfl) <| svs (vnes rfl rfl) (fun q3 => ?_) (fun q3 => ?_)
          ·
            refine sv (vmB rfl) <| svg rfl (vmT rfl) <| svg rfl (vixs (c := u.headD 0) Tryd.underlying9 rfl rfl (by omega) (bs_get0 (List.length_pos_iff.2 (fun e => q3 (bse.2 e))))) <| gy rfl <| clx (by repeat' (first | with_reducible exact Sb.all | exact Sb.nil | (apply Sb.cons; focus (first | ((repeat (first | with_reducible exact Tk.here | with_reducible apply Tk.there)); done) | ((repeat (first | exact Tk.here | apply Tk.there)); done))) | apply Sb.drop)) (ref_digit) ct23 rfl fun r10 hr10 => ?_
            exact sv (vpkt rfl) <| sv (vaB rfl) <| WL.nil <| WX.mid () trivial ⟨bB (by rw [numB_head (fun e => q3 (bse.2 e))]), trivial⟩ ⟨rfl, rfl, rfl, rfl, rfl, rfl, rfl, trivial⟩ (fun _ h => Sb.own (by repeat' (first | with_reducible exact Sb.all | exact Sb.nil | (apply Sb.cons; focus (first | ((repeat (first | with_reducible exact Tk.here | with_reducible apply Tk.there)); done) | ((repeat (first | exact Tk.here | apply Tk.there)); done))) | apply Sb.drop)) h)
          ·
            exact sv (vmB rfl) <| sng rfl <| sng rfl <| sng rfl <| sv (vpkf rfl) <| sv (vaB rfl) <| WL.nil <| WX.mid () trivial ⟨bF (by rw [bse.1 (Decidable.not_not.1 q3)]; decide), trivial⟩ ⟨rfl, rfl, rfl, rfl, rfl, rfl, rfl, trivial⟩ (fun _ h => Sb.own (by repeat' (first | with_reducible exact Sb.all | exact Sb.nil | (apply Sb.cons; focus (first | ((repeat (first | with_reducible exact Tk.here | with_reducible apply Tk.there)); done) | ((repeat (first | exact Tk.here | apply Tk.there)); done))) | apply Sb.drop)) h)
        refine WC.cutS [(12, .bool (decide (nameB u = true)))] [(0, .string _), (5, .pointer _), (6, .bool _), (7, .int _ _), (8, .int _ _), (9, .int _ _), (10, .string _), (11, .bool _)] ⟨rfl, rfl, rfl, rfl, rfl, rfl, rfl, rfl, trivial⟩ ?_ fun ρh => ?_
        · -- ref.go:135
          refine WC.region <| sv (vmT rfl) <| svs (veqs rfl rfl) (fun q4 => ?_) (fun q4 => ?_)
          ·
            exact sv (vmB rfl) <| sng rfl <| sng rfl <| sv (vpkt rfl) <| sv (vmB rfl) <| sng rfl <| sng rfl <| sv (vpkt rfl) <| sv (vaB rfl) <| WL.nil <| WX.mid () trivial ⟨bT (nameB_iff.2 (.inl (bse.1 q4))), trivial⟩ ⟨rfl, rfl, rfl, rfl, rfl, rfl, rfl, rfl, trivial⟩ (fun _ h => Sb.own (by repeat' (first | with_reducible exact Sb.all | exact Sb.nil | (apply Sb.cons; focus (first | ((repeat (first | with_reducible exact Tk.here | with_reducible apply Tk.there)); done) | ((repeat (first | exact Tk.here | apply Tk.there)); done))) | apply Sb.drop)) h)
          ·
            refine sv (vmB rfl) <| svg rfl (vmT rfl) <| svsg rfl (veqs rfl rfl) (fun q5 => ?_) (fun q5 => ?_)
            ·
              exact sv (vpkf rfl) <| sv (vmB rfl) <| sng rfl <| sng rfl <| sv (vpkt rfl) <| sv (vaB rfl) <| WL.nil <| WX.mid () trivial ⟨bT (nameB_iff.2 (.inr (.inl (bse.1 q5)))), trivial⟩ ⟨rfl, rfl, rfl, rfl, rfl, rfl, rfl, rfl, trivial⟩ (fun _ h => Sb.own (by repeat' (first | with_reducible exact Sb.all | exact Sb.nil | (apply Sb.cons; focus (first | ((repeat (first | with_reducible exact Tk.here | with_reducible apply Tk.there)); done) | ((repeat (first | exact Tk.here | apply Tk.there)); done))) | apply Sb.drop)) h)
            ·
              exact sv (vpkf rfl) <| sv (vmB rfl) <| svg rfl (vmT rfl) <| svg rfl (veqs rfl rfl) <| sv (vpkf rfl) <| sv (vaB rfl) <| WL.nil <| WX.mid () trivial ⟨bI (by rw [nameB_iff, bse]; exact ⟨fun h => .inr (.inr h), fun h => by rcases h with h | h | h; exact absurd (bse.2 h) q4; exact absurd (bse.2 h) q5; exact h⟩), trivial⟩ ⟨rfl, rfl, rfl, rfl, rfl, rfl, rfl, rfl, trivial⟩ (fun _ h => Sb.own (by repeat' (first | with_reducible exact Sb.all | exact Sb.nil | (apply Sb.cons; focus (first | ((repeat (first | with_reducible exact Tk.here | with_reducible apply Tk.there)); done) | ((repeat (first | exact Tk.here | apply Tk.there)); done))) | apply Sb.drop)) h)
        refine WC.cutS [(13, .bool (decide (u = [45] ∨ u = [33])))] [(0, .string _), (5, .pointer _), (6, .bool _), (7, .int _ _), (8, .int _ _), (9, .int _ _), (10, .string _), (11, .bool _), (12, .bool _)] ⟨rfl, rfl, rfl, rfl, rfl, rfl, rfl, rfl, rfl, trivial⟩ ?_ fun ρh => ?_
        · -- ref.go:136
          refine WC.region <| sv (vmT rfl) <| svs (veqs rfl rfl) (fun q6 => ?_) (fun q6 => ?_)
          ·
            exact sv (vmB rfl) <| sng rfl <| sng rfl <| sv (vpkt rfl) <| sv (vaB rfl) <| WL.nil <| WX.mid () trivial ⟨bT (.inl (bse.1 q6)), trivial⟩ ⟨rfl, rfl, rfl, rfl, rfl, rfl, rfl, rfl, rfl, trivial⟩ (fun _ h => Sb.own (by repeat' (first | with_reducible exact Sb.all | exact Sb.nil | (apply Sb.cons; focus (first | ((repeat (first | with_reducible exact Tk.here | with_reducible apply Tk.there)); done) | ((repeat (first | exact Tk.here | apply Tk.there)); done))) | apply Sb.drop)) h)
          ·
            exact sv (vmB rfl) <| svg rfl (vmT rfl) <| svg rfl (veqs rfl rfl) <| sv (vpkf rfl) <| sv (vaB rfl) <| WL.nil <| WX.mid () trivial ⟨bI (by rw [bse]; exact ⟨.inr, fun h => h.resolve_left fun e => q6 (bse.2 e)⟩), trivial⟩ ⟨rfl, rfl, rfl, rfl, rfl, rfl, rfl, rfl, rfl, trivial⟩ (fun _ h => Sb.own (by repeat' (first | with_reducible exact Sb.all | exact Sb.nil | (apply Sb.cons; focus (first | ((repeat (first | with_reducible exact Tk.here | with_reducible apply Tk.there)); done) | ((repeat (first | exact Tk.here | apply Tk.there)); done))) | apply Sb.drop)) h)
        refine WC.cutS [(14, .bool (decide (0 < rankS u ∧ rankS u < 6)))] [(0, .string _), (5, .pointer _), (6, .bool _), (7, .int _ _), (8, .int _ _), (9, .int _ _), (10, .string _), (11, .bool _), (12, .bool _), (13, .bool _)] ⟨rfl, rfl, rfl, rfl, rfl, rfl, rfl, rfl, rfl, rfl, trivial⟩ ?_ fun ρh => ?_
        · -- ref.go:137
          refine WC.region <| sv (vmT rfl) <| clx (by repeat' (first | with_reducible exact Sb.all | exact Sb.nil | (apply Sb.cons; focus (first | ((repeat (first | with_reducible exact Tk.here | with_reducible apply Tk.there)); done) | ((repeat (first | exact Tk.here | apply Tk.there)); done))) | apply Sb.drop)) (ref_rank) ct24 rfl fun r11 hr11 => ?_
          refine svs (vgt rfl rfl) (fun q7 => ?_) (fun q7 => ?_)
          ·
            refine sv (vmB rfl) <| svg rfl (vmT rfl) <| gy rfl <| clx (by repeat' (first | with_reducible exact Sb.all | exact Sb.nil | (apply Sb.cons; focus (first | ((repeat (first | with_reducible exact Tk.here | with_reducible apply Tk.there)); done) | ((repeat (first | exact Tk.here | apply Tk.there)); done))) | apply Sb.drop)) (ref_rank) ct24 rfl fun r12 hr12 => ?_
            exact svg rfl (vlt rfl rfl) <| sv (vpkt rfl) <| sv (vaB rfl) <| WL.nil <| WX.mid () trivial ⟨bI (by omega), trivial⟩ ⟨rfl, rfl, rfl, rfl, rfl, rfl, rfl, rfl, rfl, rfl, trivial⟩ (fun _ h => Sb.own (by repeat' (first | with_reducible exact Sb.all | exact Sb.nil | (apply Sb.cons; focus (first | ((repeat (first | with_reducible exact Tk.here | with_reducible apply Tk.there)); done) | ((repeat (first | exact Tk.here | apply Tk.there)); done))) | apply Sb.drop)) h)
          ·
            exact sv (vmB rfl) <| sng rfl <| sng rfl <| sng rfl <| sv (vpkf rfl) <| sv (vaB rfl) <| WL.nil <| WX.mid () trivial ⟨bF (by omega), trivial⟩ ⟨rfl, rfl, rfl, rfl, rfl, rfl, rfl, rfl, rfl, rfl, trivial⟩ (fun _ h => Sb.own (by repeat' (first | with_reducible exact Sb.all | exact Sb.nil | (apply Sb.cons; focus (first | ((repeat (first | with_reducible exact Tk.here | with_reducible apply Tk.there)); done) | ((repeat (first | exact Tk.here | apply Tk.there)); done))) | apply Sb.drop)) h)
        refine WC.cutS [(15, .bool (decide (fitsE wants opn u)))] [(0, .string _), (5, .pointer _), (6, .bool _), (7, .int _ _), (8, .int _ _), (9, .int _ _), (10, .string _), (11, .bool _), (12, .bool _)] ⟨rfl, rfl, rfl, rfl, rfl, rfl, rfl, rfl, rfl, trivial⟩ ?_ fun ρh => ?_
        · -- ref.go:138
          refine WC.region <| svb (vmB rfl) (fun q8 => ?_) (fun q8 => ?_)
          ·
            refine sv (vmB rfl) <| svbg rfl (vmB rfl) (fun q9 => ?_) (fun q9 => ?_)
            ·
              exact svg rfl (vmB rfl) <| sng rfl <| svg rfl (vpkt rfl) <| svg rfl (vmB rfl) <| sng rfl <| svg rfl (vpkt rfl) <| svg rfl (vmB rfl) <| sng rfl <| sng rfl <| svg rfl (vpkt rfl) <| sv (vpkt rfl) <| sv (vmB rfl) <| sng rfl <| sng rfl <| sng rfl <| sng rfl <| sng rfl <| sng rfl <| sng rfl <| sng rfl <| sng rfl <| sng rfl <| sng rfl <| sng rfl <| sng rfl <| sv (vpkt rfl) <| sv (vaB rfl) <| WL.nil <| WX.mid () trivial ⟨bT (.inl ⟨q8, .inl (of_decide_eq_true q9)⟩), trivial⟩ ⟨rfl, rfl, rfl, rfl, rfl, rfl, rfl, rfl, rfl, trivial⟩ (fun _ h => Sb.own (by repeat' (first | with_reducible exact Sb.all | exact Sb.nil | (apply Sb.cons; focus (first | ((repeat (first | with_reducible exact Tk.here | with_reducible apply Tk.there)); done) | ((repeat (first | exact Tk.here | apply Tk.there)); done))) | apply Sb.drop)) h)
            ·
              refine svg rfl (vmB rfl) <| svbg rfl (vmB rfl) (fun q10 => ?_) (fun q10 => ?_)
              ·
                exact svg rfl (vpkf rfl) <| svg rfl (vmB rfl) <| sng rfl <| svg rfl (vpkt rfl) <| svg rfl (vmB rfl) <| sng rfl <| sng rfl <| svg rfl (vpkt rfl) <| sv (vpkt rfl) <| sv (vmB rfl) <| sng rfl <| sng rfl <| sng rfl <| sng rfl <| sng rfl <| sng rfl <| sng rfl <| sng rfl <| sng rfl <| sng rfl <| sng rfl <| sng rfl <| sng rfl <| sv (vpkt rfl) <| sv (vaB rfl) <| WL.nil <| WX.mid () trivial ⟨bT (.inl ⟨q8, .inr (.inl (of_decide_eq_true q10))⟩), trivial⟩ ⟨rfl, rfl, rfl, rfl, rfl, rfl, rfl, rfl, rfl, trivial⟩ (fun _ h => Sb.own (by repeat' (first | with_reducible exact Sb.all | exact Sb.nil | (apply Sb.cons; focus (first | ((repeat (first | with_reducible exact Tk.here | with_reducible apply Tk.there)); done) | ((repeat (first | exact Tk.here | apply Tk.there)); done))) | apply Sb.drop)) h)
              ·
                refine svg rfl (vpkf rfl) <| svg rfl (vmB rfl) <| svbg rfl (vmB rfl) (fun q11 => ?_) (fun q11 => ?_)
                ·
                  exact svg rfl (vpkf rfl) <| svg rfl (vmB rfl) <| sng rfl <| sng rfl <| svg rfl (vpkt rfl) <| sv (vpkt rfl) <| sv (vmB rfl) <| sng rfl <| sng rfl <| sng rfl <| sng rfl <| sng rfl <| sng rfl <| sng rfl <| sng rfl <| sng rfl <| sng rfl <| sng rfl <| sng rfl <| sng rfl <| sv (vpkt rfl) <| sv (vaB rfl) <| WL.nil <| WX.mid () trivial ⟨bT (.inl ⟨q8, .inr (.inr (.inl (of_decide_eq_true q11)))⟩), trivial⟩ ⟨rfl, rfl, rfl, rfl, rfl, rfl, rfl, rfl, rfl, trivial⟩ (fun _ h => Sb.own (by repeat' (first | with_reducible exact Sb.all | exact Sb.nil | (apply Sb.cons; focus (first | ((repeat (first | with_reducible exact Tk.here | with_reducible apply Tk.there)); done) | ((repeat (first | exact Tk.here | apply Tk.there)); done))) | apply Sb.drop)) h)
                ·
                  refine svg rfl (vpkf rfl) <| svg rfl (vmB rfl) <| svg rfl (vmT rfl) <| svsg rfl (veqs rfl rfl) (fun q12 => ?_) (fun q12 => ?_)
                  ·
                    exact svg rfl (vpkf rfl) <| sv (vpkt rfl) <| sv (vmB rfl) <| sng rfl <| sng rfl <| sng rfl <| sng rfl <| sng rfl <| sng rfl <| sng rfl <| sng rfl <| sng rfl <| sng rfl <| sng rfl <| sng rfl <| sng rfl <| sv (vpkt rfl) <| sv (vaB rfl) <| WL.nil <| WX.mid () trivial ⟨bT (.inl ⟨q8, .inr (.inr (.inr (bse.1 q12)))⟩), trivial⟩ ⟨rfl, rfl, rfl, rfl, rfl, rfl, rfl, rfl, rfl, trivial⟩ (fun _ h => Sb.own (by repeat' (first | with_reducible exact Sb.all | exact Sb.nil | (apply Sb.cons; focus (first | ((repeat (first | with_reducible exact Tk.here | with_reducible apply Tk.there)); done) | ((repeat (first | exact Tk.here | apply Tk.there)); done))) | apply Sb.drop)) h)
                  ·
                    refine svg rfl (vpkf rfl) <| sv (vpkt rfl) <| sv (vmB rfl) <| svbg rfl (vmB rfl) (fun q13 => ?_) (fun q13 => ?_)
                    ·
                      exact svg rfl (vnot rfl) <| svg rfl (vmB rfl) <| sng rfl <| sng rfl <| sng rfl <| sng rfl <| sng rfl <| sng rfl <| sng rfl <| sng rfl <| sng rfl <| svg rfl (vpkf rfl) <| sv (vpkf rfl) <| sv (vaB rfl) <| WL.nil <| WX.mid () trivial ⟨bF (fun h => by rcases h with ⟨_, a | a | a | a⟩ | ⟨a, _⟩; exact absurd a (of_decide_eq_false q9); exact absurd a (of_decide_eq_false q10); exact absurd a (of_decide_eq_false q11); exact q12 (bse.2 a); rw [q8] at a; cases a), trivial⟩ ⟨rfl, rfl, rfl, rfl, rfl, rfl, rfl, rfl, rfl, trivial⟩ (fun _ h => Sb.own (by repeat' (first | with_reducible exact Sb.all | exact Sb.nil | (apply Sb.cons; focus (first | ((repeat (first | with_reducible exact Tk.here | with_reducible apply Tk.there)); done) | ((repeat (first | exact Tk.here | apply Tk.there)); done))) | apply Sb.drop)) h)
                    ·
                      refine svg rfl (vnot rfl) <| svg rfl (vmB rfl) <| svbg rfl (vmB rfl) (fun q14 => ?_) (fun q14 => ?_)
                      ·
                        exact svg rfl (vmB rfl) <| sng rfl <| sng rfl <| sng rfl <| sng rfl <| sng rfl <| sng rfl <| svg rfl (vpkt rfl) <| svg rfl (vpkt rfl) <| sv (vpkf rfl) <| sv (vaB rfl) <| WL.nil <| WX.mid () trivial ⟨(absurd q13 (by rw [q8]; decide)), trivial⟩ ⟨rfl, rfl, rfl, rfl, rfl, rfl, rfl, rfl, rfl, trivial⟩ (fun _ h => Sb.own (by repeat' (first | with_reducible exact Sb.all | exact Sb.nil | (apply Sb.cons; focus (first | ((repeat (first | with_reducible exact Tk.here | with_reducible apply Tk.there)); done) | ((repeat (first | exact Tk.here | apply Tk.there)); done))) | apply Sb.drop)) h)
                      ·
                        refine svg rfl (vmB rfl) <| svg rfl (vmT rfl) <| svsg rfl (veqs rfl rfl) (fun q15 => ?_) (fun q15 => ?_)
                        ·
                          exact svg rfl (vmB rfl) <| svg rfl (vmI rfl) <| svg rfl (vgt rfl rfl) <| svg rfl (vpkt rfl) <| svg rfl (vpkf rfl) <| svg rfl (vpkt rfl) <| sv (vpkf rfl) <| sv (vaB rfl) <| WL.nil <| WX.mid () trivial ⟨(absurd q13 (by rw [q8]; decide)), trivial⟩ ⟨rfl, rfl, rfl, rfl, rfl, rfl, rfl, rfl, rfl, trivial⟩ (fun _ h => Sb.own (by repeat' (first | with_reducible exact Sb.all | exact Sb.nil | (apply Sb.cons; focus (first | ((repeat (first | with_reducible exact Tk.here | with_reducible apply Tk.there)); done) | ((repeat (first | exact Tk.here | apply Tk.there)); done))) | apply Sb.drop)) h)
                        ·
                          exact svg rfl (vmB rfl) <| sng rfl <| sng rfl <| svg rfl (vpkf rfl) <| svg rfl (vpkf rfl) <| svg rfl (vpkt rfl) <| sv (vpkf rfl) <| sv (vaB rfl) <| WL.nil <| WX.mid () trivial ⟨(absurd q13 (by rw [q8]; decide)), trivial⟩ ⟨rfl, rfl, rfl, rfl, rfl, rfl, rfl, rfl, rfl, trivial⟩ (fun _ h => Sb.own (by repeat' (first | with_reducible exact Sb.all | exact Sb.nil | (apply Sb.cons; focus (first | ((repeat (first | with_reducible exact Tk.here | with_reducible apply Tk.there)); done) | ((repeat (first | exact Tk.here | apply Tk.there)); done))) | apply Sb.drop)) h)
          ·
            refine sv (vmB rfl) <| sng rfl <| sng rfl <| sng rfl <| sng rfl <| sng rfl <| sng rfl <| sng rfl <| sng rfl <| sng rfl <| sng rfl <| sng rfl <| sv (vpkf rfl) <| sv (vmB rfl) <| svbg rfl (vmB rfl) (fun q16 => ?_) (fun q16 => ?_)
            ·
              exact svg rfl (vnot rfl) <| svg rfl (vmB rfl) <| sng rfl <| sng rfl <| sng rfl <| sng rfl <| sng rfl <| sng rfl <| sng rfl <| sng rfl <| sng rfl <| svg rfl (vpkf rfl) <| sv (vpkf rfl) <| sv (vaB rfl) <| WL.nil <| WX.mid () trivial ⟨(absurd q16 (by rw [q8]; decide)), trivial⟩ ⟨rfl, rfl, rfl, rfl, rfl, rfl, rfl, rfl, rfl, trivial⟩ (fun _ h => Sb.own (by repeat' (first | with_reducible exact Sb.all | exact Sb.nil | (apply Sb.cons; focus (first | ((repeat (first | with_reducible exact Tk.here | with_reducible apply Tk.there)); done) | ((repeat (first | exact Tk.here | apply Tk.there)); done))) | apply Sb.drop)) h)
            ·
              refine svg rfl (vnot rfl) <| svg rfl (vmB rfl) <| svbg rfl (vmB rfl) (fun q17 => ?_) (fun q17 => ?_)
              ·
                exact svg rfl (vmB rfl) <| sng rfl <| sng rfl <| sng rfl <| sng rfl <| sng rfl <| sng rfl <| svg rfl (vpkt rfl) <| svg rfl (vpkt rfl) <| sv (vpkf rfl) <| sv (vaB rfl) <| WL.nil <| WX.mid () trivial ⟨bT (.inr ⟨q8, .inl (of_decide_eq_true q17)⟩), trivial⟩ ⟨rfl, rfl, rfl, rfl, rfl, rfl, rfl, rfl, rfl, trivial⟩ (fun _ h => Sb.own (by repeat' (first | with_reducible exact Sb.all | exact Sb.nil | (apply Sb.cons; focus (first | ((repeat (first | with_reducible exact Tk.here | with_reducible apply Tk.there)); done) | ((repeat (first | exact Tk.here | apply Tk.there)); done))) | apply Sb.drop)) h)
              ·
                refine svg rfl (vmB rfl) <| svg rfl (vmT rfl) <| svsg rfl (veqs rfl rfl) (fun q18 => ?_) (fun q18 => ?_)
                ·
                  exact svg rfl (vmB rfl) <| svg rfl (vmI rfl) <| svg rfl (vgt rfl rfl) <| svg rfl (vpkt rfl) <| svg rfl (vpkf rfl) <| svg rfl (vpkt rfl) <| sv (vpkf rfl) <| sv (vaB rfl) <| WL.nil <| WX.mid () trivial ⟨bI ⟨fun h => .inr ⟨q8, .inr ⟨bse.1 q18, by omega⟩⟩, fun h => by rcases h with ⟨a, _⟩ | ⟨_, a | ⟨_, a⟩⟩; rw [q8] at a; cases a; exact absurd a (of_decide_eq_false q17); omega⟩, trivial⟩ ⟨rfl, rfl, rfl, rfl, rfl, rfl, rfl, rfl, rfl, trivial⟩ (fun _ h => Sb.own (by repeat' (first | with_reducible exact Sb.all | exact Sb.nil | (apply Sb.cons; focus (first | ((repeat (first | with_reducible exact Tk.here | with_reducible apply Tk.there)); done) | ((repeat (first | exact Tk.here | apply Tk.there)); done))) | apply Sb.drop)) h)
                ·
                  exact svg rfl (vmB rfl) <| sng rfl <| sng rfl <| svg rfl (vpkf rfl) <| svg rfl (vpkf rfl) <| svg rfl (vpkt rfl) <| sv (vpkf rfl) <| sv (vaB rfl) <| WL.nil <| WX.mid () trivial ⟨bF (fun h => by rcases h with ⟨a, _⟩ | ⟨_, a | ⟨a, _⟩⟩; rw [q8] at a; cases a; exact absurd a (of_decide_eq_false q17); exact q18 (bse.2 a)), trivial⟩ ⟨rfl, rfl, rfl, rfl, rfl, rfl, rfl, rfl, rfl, trivial⟩ (fun _ h => Sb.own (by repeat' (first | with_reducible exact Sb.all | exact Sb.nil | (apply Sb.cons; focus (first | ((repeat (first | with_reducible exact Tk.here | with_reducible apply Tk.there)); done) | ((repeat (first | exact Tk.here | apply Tk.there)); done))) | apply Sb.drop)) h)
        refine WC.seq <| ?_
        refine WC.cutS [(108, .bool (decide (u = [] ∨ ¬ fitsE wants opn u)))] [(0, .string _), (5, .pointer _), (6, .bool _), (7, .int _ _), (8, .int _ _), (9, .int _ _), (10, .string _), (11, .bool _), (12, .bool _)] ⟨rfl, rfl, rfl, rfl, rfl, rfl, rfl, rfl, rfl, trivial⟩ ?_ fun ρh => ?_
        · -- ref.go:139
          refine WC.region <| sv (vmT rfl) <| svs (veqs rfl rfl) (fun q19 => ?_) (fun q19 => ?_)
          ·
            exact sv (vmB rfl) <| sng rfl <| sng rfl <| sv (vpkt rfl) <| WL.nil <| WX.mid () trivial ⟨bT (.inl (bse.1 q19)), trivial⟩ ⟨rfl, rfl, rfl, rfl, rfl, rfl, rfl, rfl, rfl, trivial⟩ (fun _ h => Sb.own (by repeat' (first | with_reducible exact Sb.all | exact Sb.nil | (apply Sb.cons; focus (first | ((repeat (first | with_reducible exact Tk.here | with_reducible apply Tk.there)); done) | ((repeat (first | exact Tk.here | apply Tk.there)); done))) | apply Sb.drop)) h)
          ·
            exact sv (vmB rfl) <| svg rfl (vmB rfl) <| svg rfl (vnot rfl) <| sv (vpkf rfl) <| WL.nil <| WX.mid () trivial ⟨bB (by rw [Bool.not_eq_true', decide_eq_false_iff_not]; exact ⟨.inr, fun h => h.resolve_left fun e => q19 (bse.2 e)⟩), trivial⟩ ⟨rfl, rfl, rfl, rfl, rfl, rfl, rfl, rfl, rfl, trivial⟩ (fun _ h => Sb.own (by repeat' (first | with_reducible exact Sb.all | exact Sb.nil | (apply Sb.cons; focus (first | ((repeat (first | with_reducible exact Tk.here | with_reducible apply Tk.there)); done) | ((repeat (first | exact Tk.here | apply Tk.there)); done))) | apply Sb.drop)) h)
        refine WC.ite rfl (fun h5 => ?_) (fun h5 => ?_)
        · -- then
          obtain rfl := run_bad hrun hs1 (by rw [← hu]; exact h5)
          exact WC.seq <| WC.region <| sv (vmI rfl) <| sv (vaP rfl) <| sv (vaI rfl) <| sv (vaI rfl) <| WL.nil <| WX.thenN <| WC.ret <| WX.thenR <| WX.blockR <| WX.thenR <| WX.blockR <| WX.thenR <| WX.ret3 rfl (()) (trivial) rfl (fun _ h => Sb.own (by repeat' (first | with_reducible exact Sb.all | exact Sb.nil | (apply Sb.cons; focus (first | ((repeat (first | with_reducible exact Tk.here | with_reducible apply Tk.there)); done) | ((repeat (first | exact Tk.here | apply Tk.there)); done))) | apply Sb.drop)) h)
        · -- else
          have hu0 : u ≠ [] := fun e => h5 (.inl e)
          have hfit : fitsE wants opn u := Decidable.not_not.1 fun e => h5 (.inr e)
          refine WC.skip <| WX.thenN <| ?_
          refine WC.cutvS (ι := Nat) (fun p1 => [(8, .int .i64 ((p1 : Nat) : Int))]) [(0, .string _), (5, .pointer _), (6, .bool _), (7, .int _ _), (9, .int _ _), (10, .string _), (11, .bool _), (12, .bool _)] (fun p1 => p1 = (if parenB u then p else p + 1) ∧ p1 ≤ 64) ⟨rfl, rfl, rfl, rfl, rfl, rfl, rfl, rfl, trivial⟩ ?_ ?_
          · -- up to the join
            refine WC.cutS [(115, .bool (decide (parenB u = false)))] [(0, .string _), (5, .pointer _), (6, .bool _), (7, .int _ _), (8, .int _ _), (9, .int _ _), (10, .string _), (11, .bool _), (12, .bool _)] ⟨rfl, rfl, rfl, rfl, rfl, rfl, rfl, rfl, rfl, trivial⟩ ?_ fun ρh => ?_
            · -- ref.go:142
              refine WC.region <| sv (vmT rfl) <| svs (vnes rfl rfl) (fun q20 => ?_) (fun q20 => ?_)
              ·
                exact sv (vmB rfl) <| svg rfl (vmT rfl) <| svg rfl (vnes rfl rfl) <| sv (vpkt rfl) <| WL.nil <| WX.mid () trivial ⟨bI ⟨fun h => by cases hq : parenB u with | false => rfl | true => rcases paren_iff.1 hq with e | e; exact absurd (bse.2 e) q20; exact absurd (bse.2 e) h, fun h e => absurd h (by rw [bse.1 e]; decide)⟩, trivial⟩ ⟨rfl, rfl, rfl, rfl, rfl, rfl, rfl, rfl, rfl, trivial⟩ (fun _ h => Sb.own (by repeat' (first | with_reducible exact Sb.all | exact Sb.nil | (apply Sb.cons; focus (first | ((repeat (first | with_reducible exact Tk.here | with_reducible apply Tk.there)); done) | ((repeat (first | exact Tk.here | apply Tk.there)); done))) | apply Sb.drop)) h)
              ·
                exact sv (vmB rfl) <| sng rfl <| sng rfl <| sv (vpkf rfl) <| WL.nil <| WX.mid () trivial ⟨bF (by rw [bse.1 (Decidable.not_not.1 q20)]; decide), trivial⟩ ⟨rfl, rfl, rfl, rfl, rfl, rfl, rfl, rfl, rfl, trivial⟩ (fun _ h => Sb.own (by repeat' (first | with_reducible exact Sb.all | exact Sb.nil | (apply Sb.cons; focus (first | ((repeat (first | with_reducible exact Tk.here | with_reducible apply Tk.there)); done) | ((repeat (first | exact Tk.here | apply Tk.there)); done))) | apply Sb.drop)) h)
            refine WC.ite rfl (fun h6 => ?_) (fun h6 => ?_)
            · -- then
              refine WC.seq <| WC.region <| sv (vmI rfl) <| sv (vadd rfl rfl (by omega)) <| sv (vaI rfl) <| WL.nil <| WX.thenN <| WC.seq <| WC.region <| sv (vmI rfl) <| sv (vgt rfl rfl) <| WL.nil <| WX.thenN <| ?_
              refine WC.ite rfl (fun h7 => ?_) (fun h7 => ?_)
              · -- then
                obtain rfl := run_many hrun hs1 (by rw [← hu]; exact hu0) (by rw [← hu]; exact hfit) (by rw [← hu]; exact h6) (by omega) hp64
                exact WC.seq <| WC.region <| sv (vmI rfl) <| sv (vaP rfl) <| sv (vaI rfl) <| sv (vaI rfl) <| WL.nil <| WX.thenN <| WC.ret <| WX.thenR <| WX.blockR <| WX.thenR <| WX.blockR <| WX.thenR <| WX.ret3 rfl (()) (trivial) rfl (fun _ h => Sb.own (by repeat' (first | with_reducible exact Sb.all | exact Sb.nil | (apply Sb.cons; focus (first | ((repeat (first | with_reducible exact Tk.here | with_reducible apply Tk.there)); done) | ((repeat (first | exact Tk.here | apply Tk.there)); done))) | apply Sb.drop)) h)
              · -- else
                exact WC.skip <| WX.mid (p + 1) (⟨by rw [h6]; rfl, by omega⟩) ⟨iv (by omega), trivial⟩ ⟨rfl, rfl, rfl, rfl, rfl, rfl, rfl, rfl, trivial⟩ (fun _ h => Sb.own (by repeat' (first | with_reducible exact Sb.all | exact Sb.nil | (apply Sb.cons; focus (first | ((repeat (first | with_reducible exact Tk.here | with_reducible apply Tk.there)); done) | ((repeat (first | exact Tk.here | apply Tk.there)); done))) | apply Sb.drop)) h)
            · -- else
              exact WC.skip <| WX.mid (p) (⟨by rw [show parenB u = true from by simpa using h6]; rfl, hp64⟩) ⟨rfl, trivial⟩ ⟨rfl, rfl, rfl, rfl, rfl, rfl, rfl, rfl, trivial⟩ (fun _ h => Sb.own (by repeat' (first | with_reducible exact Sb.all | exact Sb.nil | (apply Sb.cons; focus (first | ((repeat (first | with_reducible exact Tk.here | with_reducible apply Tk.there)); done) | ((repeat (first | exact Tk.here | apply Tk.there)); done))) | apply Sb.drop)) h)
          · -- behind the join
            intro p1 ⟨hp1, hp64'⟩ ρh
            obtain ⟨V', W', htk, hrun'⟩ := run_next hrun hs1 (by rw [← hu]; exact hu0) (by rw [← hu]; exact hfit) (p' := p1) (by rw [← hu]; exact hp1) hp64'
            rw [← hu] at htk hrun'
            have hdl : ((sk l).drop u.length).length = (sk l).length - u.length := List.length_drop
            have hul0 : 1 ≤ u.length := List.length_pos_iff.2 hu0
            have hbal' := bal_take (k := ((sk l).drop u.length).length) htk (hbal.le (by omega))
            have hsum := hbal.sum
            refine WC.seq <| WC.region <| sv (vmP rfl) <| sv (vmT rfl) <| sv (vmB rfl) <| clx (by repeat' (first | with_reducible exact Sb.all | exact Sb.nil | (apply Sb.cons; focus (first | ((repeat (first | with_reducible exact Tk.here | with_reducible apply Tk.there)); done) | ((repeat (first | exact Tk.here | apply Tk.there)); done))) | apply Sb.drop)) (rs_take htk (fun h => by have := hbal.bin; rw [h] at this; simpa using this) (by omega)) ct25 rfl fun r14 hr14 => ?_
            refine WL.nil <| WX.thenN <| ?_
            refine WC.cutvS (ι := Unit) (fun i => [(6, .bool (wantsN u wants)), (7, .int .i64 ((openN u opn : Nat) : Int))]) [(0, .string _), (5, .pointer _), (8, .int _ _), (9, .int _ _), (10, .string _)] (fun i => True) ⟨rfl, rfl, rfl, rfl, rfl, trivial⟩ ?_ ?_
            · -- up to the join
              refine WC.block <| WC.seq <| WC.region <| sv (vmT rfl) <| sv (veqs rfl rfl) <| sv (vaB rfl) <| WL.nil <| WX.thenN <| ?_
              refine WC.ite rfl (fun h8 => ?_) (fun h8 => ?_)
              · -- then
                have e8 := bse.1 h8
                exact WC.region <| sv (vmI rfl) <| sv (vadd rfl rfl (by omega)) <| sv (vaI rfl) <| WL.nil <| WX.blockN <| WX.mid (()) (trivial) ⟨by rw [e8]; rfl, iv (by unfold openN; rw [if_pos e8]; omega), trivial⟩ ⟨rfl, rfl, rfl, rfl, rfl, trivial⟩ (fun _ h => Sb.own (by repeat' (first | with_reducible exact Sb.all | exact Sb.nil | (apply Sb.cons; focus (first | ((repeat (first | with_reducible exact Tk.here | with_reducible apply Tk.there)); done) | ((repeat (first | exact Tk.here | apply Tk.there)); done))) | apply Sb.drop)) h)
              · -- else
                refine WC.seq <| WC.region <| sv (vmT rfl) <| sv (veqs rfl rfl) <| sv (vaB rfl) <| WL.nil <| WX.thenN <| ?_
                refine WC.ite rfl (fun h9 => ?_) (fun h9 => ?_)
                · -- then
                  have e9 := bse.1 h9
                  have hop : 0 < opn := by rw [e9] at hfit; rcases hfit with ⟨_, a | a | (a | a) | a⟩ | ⟨_, a | ⟨_, a⟩⟩ <;> first | exact a | exact absurd a (by decide)
                  exact WC.region <| sv (vmI rfl) <| sv (vsub rfl rfl (by omega)) <| sv (vaI rfl) <| WL.nil <| WX.blockN <| WX.mid (()) (trivial) ⟨by rw [e9]; rfl, iv (by unfold openN; rw [e9]; rw [if_neg (by decide), if_pos rfl]; omega), trivial⟩ ⟨rfl, rfl, rfl, rfl, rfl, trivial⟩ (fun _ h => Sb.own (by repeat' (first | with_reducible exact Sb.all | exact Sb.nil | (apply Sb.cons; focus (first | ((repeat (first | with_reducible exact Tk.here | with_reducible apply Tk.there)); done) | ((repeat (first | exact Tk.here | apply Tk.there)); done))) | apply Sb.drop)) h)
                · -- else
                  have ho : openN u opn = opn := by unfold openN; rw [if_neg (fun e => h8 (bse.2 e)), if_neg (fun e => h9 (bse.2 e))]
                  have hpar : parenB u = false := by cases hq : parenB u with | false => rfl | true => rcases paren_iff.1 hq with e | e; exact absurd (bse.2 e) h8; exact absurd (bse.2 e) h9
                  refine WC.cutS [(135, .bool (decide (numB u = true ∨ nameB u = true)))] [(0, .string _), (5, .pointer _), (6, .bool _), (7, .int _ _), (8, .int _ _), (9, .int _ _), (10, .string _)] ⟨rfl, rfl, rfl, rfl, rfl, rfl, rfl, trivial⟩ ?_ fun ρh => ?_
                  · -- ref.go:154
                    refine WC.region <| svb (vmB rfl) (fun q21 => ?_) (fun q21 => ?_)
                    ·
                      exact sv (vmB rfl) <| sng rfl <| sv (vpkt rfl) <| sv (vaB rfl) <| WL.nil <| WX.mid () trivial ⟨bT (.inl (of_decide_eq_true q21)), trivial⟩ ⟨rfl, rfl, rfl, rfl, rfl, rfl, rfl, trivial⟩ (fun _ h => Sb.own (by repeat' (first | with_reducible exact Sb.all | exact Sb.nil | (apply Sb.cons; focus (first | ((repeat (first | with_reducible exact Tk.here | with_reducible apply Tk.there)); done) | ((repeat (first | exact Tk.here | apply Tk.there)); done))) | apply Sb.drop)) h)
                    ·
                      exact sv (vmB rfl) <| svg rfl (vmB rfl) <| sv (vpkf rfl) <| sv (vaB rfl) <| WL.nil <| WX.mid () trivial ⟨bB (by rw [decide_eq_true_iff]; exact ⟨.inr, fun h => h.resolve_left (of_decide_eq_false q21)⟩), trivial⟩ ⟨rfl, rfl, rfl, rfl, rfl, rfl, rfl, trivial⟩ (fun _ h => Sb.own (by repeat' (first | with_reducible exact Sb.all | exact Sb.nil | (apply Sb.cons; focus (first | ((repeat (first | with_reducible exact Tk.here | with_reducible apply Tk.there)); done) | ((repeat (first | exact Tk.here | apply Tk.there)); done))) | apply Sb.drop)) h)
                  refine WC.ite rfl (fun h10 => ?_) (fun h10 => ?_)
                  · -- then
                    have hwf : wantsN u wants = false := by unfold wantsN; rw [hpar]; rcases h10 with h | h <;> simp [h]
                    exact WC.region <| sv (vaB rfl) <| WL.nil <| WX.blockN <| WX.mid (()) (trivial) ⟨(show Value.bool false = Value.bool (wantsN u wants) by rw [hwf]), iv (by rw [ho]), trivial⟩ ⟨rfl, rfl, rfl, rfl, rfl, trivial⟩ (fun _ h => Sb.own (by repeat' (first | with_reducible exact Sb.all | exact Sb.nil | (apply Sb.cons; focus (first | ((repeat (first | with_reducible exact Tk.here | with_reducible apply Tk.there)); done) | ((repeat (first | exact Tk.here | apply Tk.there)); done))) | apply Sb.drop)) h)
                  · -- else
                    have hwn : wantsN u wants = true := by unfold wantsN; rw [hpar]; have := not_or.1 h10; simp [this.1, this.2]
                    refine WC.seq <| WC.region <| sv (vmB rfl) <| sv (vnot rfl) <| sv (vaB rfl) <| WL.nil <| WX.thenN <| ?_
                    refine WC.iteb rfl (fun h11 => ?_) (fun h11 => ?_)
                    · -- then
                      exact WC.region <| sv (vaB rfl) <| WL.nil <| WX.blockN <| WX.mid (()) (trivial) ⟨(show Value.bool true = Value.bool (wantsN u wants) by rw [hwn]), iv (by rw [ho]), trivial⟩ ⟨rfl, rfl, rfl, rfl, rfl, trivial⟩ (fun _ h => Sb.own (by repeat' (first | with_reducible exact Sb.all | exact Sb.nil | (apply Sb.cons; focus (first | ((repeat (first | with_reducible exact Tk.here | with_reducible apply Tk.there)); done) | ((repeat (first | exact Tk.here | apply Tk.there)); done))) | apply Sb.drop)) h)
                    · -- else
                      exact WC.skip <| WX.blockN <| WX.mid (()) (trivial) ⟨(show Value.bool wants = Value.bool (wantsN u wants) by rw [hwn, show wants = true from by simpa using h11]), iv (by rw [ho]), trivial⟩ ⟨rfl, rfl, rfl, rfl, rfl, trivial⟩ (fun _ h => Sb.own (by repeat' (first | with_reducible exact Sb.all | exact Sb.nil | (apply Sb.cons; focus (first | ((repeat (first | with_reducible exact Tk.here | with_reducible apply Tk.there)); done) | ((repeat (first | exact Tk.here | apply Tk.there)); done))) | apply Sb.drop)) h)
            · -- behind the join
              intro _ _ ρh
              exact WC.region <| sv (vmI rfl) <| sv (vmT rfl) <| sv (vlens Tryd.underlying9 rfl) <| sv (vadd rfl rfl (by omega)) <| sv (vaI rfl) <| WL.nil <| WX.blockN <| WX.again (⟨(sk l).drop u.length, wantsN u wants, openN u opn, p1, V', W'⟩) (⟨hrun', hbal', hp64', (List.drop_suffix _ _).trans hs2, by have := openN_le (opn := opn) hu0; dsimp only; omega⟩) (by dsimp only; omega) ⟨rfl, rfl, rfl, iv (by dsimp only; omega), trivial⟩ ⟨rfl, rfl, trivial⟩ (fun _ h => Sb.own (by repeat' (first | with_reducible exact Sb.all | exact Sb.nil | (apply Sb.cons; focus (first | ((repeat (first | with_reducible exact Tk.here | with_reducible apply Tk.there)); done) | ((repeat (first | exact Tk.here | apply Tk.there)); done))) | apply Sb.drop)) h)
end Go.Proofs.YtoeglkkmjmhmiaaDoor
