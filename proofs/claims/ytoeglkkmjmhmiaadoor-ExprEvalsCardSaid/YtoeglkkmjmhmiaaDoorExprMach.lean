/-
  Layer 4: the document's reader with two stacks, and that it answers as the other: plain words.
-/
import Derived.Test.YtoeglkkmjmhmiaaDoorExprComp
set_option linter.unusedVariables false
set_option linter.unusedSimpArgs false
namespace Go.Expr

inductive Wt
  | sg (neg : Bool) | op (o : Bo) | lp
/-- all that waits and binds as much as k, or more, is done -/
def downM (k : Nat) : List Wt → List Tr → List Tr × List Wt
  | [], V => (V, [])
  | .lp :: W, V => (V, .lp :: W)
  | .sg neg :: W, V => if k ≤ 6 then (match V with
    | x :: V => downM k W (.sg neg x :: V)
    | [] => ([], .sg neg :: W)) else (V, .sg neg :: W)
  | .op o :: W, V => if k ≤ o.rank then (match V with
    | y :: x :: V => downM k W (.bn o x y :: V)
    | V => (V, .op o :: W)) else (V, .op o :: W)
def numB : List UInt8 → Bool
  | [] => false
  | c :: _ => isDig c
def NmP (c : UInt8) : Prop := c = 110 ∨ c = 116 ∨ c = 118
instance (c : UInt8) : Decidable (NmP c) := inferInstanceAs (Decidable (_ ∨ _))
/-- the word with which a text begins -/
def wordS (l : List UInt8) : List UInt8 :=
  if 0 < runL isDig l then (if 18 < runL isDig l then [] else l.take (runL isDig l))
  else if 0 < runL isLet l then (if 1 < runL isLet l ∨ ¬ NmP (l.headD 0) then [] else l.take 1)
  else (wd l).bytes
def nameB (w : List UInt8) : Bool := w == [110] || w == [116] || w == [118]
inductive TakeR : List UInt8 → Bool → List Tr → List Wt → List Tr → List Wt → Prop
  | num {V W ds} (h0 : ds ≠ []) (ha : ∀ c ∈ ds, isDig c = true) (hl : ds.length ≤ 18) : TakeR ds true V W (.num (decN ds) :: V) W
  | nm {V W c} (h : NmP c) : TakeR [c] true V W (.nm c :: V) W
  | lp {V W} : TakeR [40] true V W V (.lp :: W)
  | neg {V W} : TakeR [45] true V W V (.sg true :: W)
  | not {V W} : TakeR [33] true V W V (.sg false :: W)
  | op {V W} (o : Bo) : TakeR o.bytes false V W (downM o.rank W V).1 (.op o :: (downM o.rank W V).2)
  | rp {V W V' W'} (h : downM 1 W V = (V', .lp :: W')) : TakeR [41] false V W V' W'
def fitsP (wants : Bool) (opn : Nat) (w : List UInt8) : Prop :=
  (wants = true ∧ (numB w = true ∨ nameB w = true ∨ w = [45] ∨ w = [33] ∨ w = [40])) ∨ (wants = false ∧ ((∃ o : Bo, w = o.bytes) ∨ (w = [41] ∧ 0 < opn)))
def parenB (w : List UInt8) : Bool := w == [40] || w == [41]
def wantsN (w : List UInt8) (wants : Bool) : Bool := if parenB w then wants else if numB w || nameB w then false else true
def openN (w : List UInt8) (opn : Nat) : Nat := if w = [40] then opn + 1 else if w = [41] then opn - 1 else opn
abbrev RM := Except (List UInt8 × Int) Tr
inductive Run : List UInt8 → Bool → Nat → Nat → List Tr → List Wt → RM → Prop
  | endErr {l wants opn p V W} (h : sk l = []) (h2 : wants = true ∨ 0 < opn) : Run l wants opn p V W (.error ([], 41))
  | endOk {l p V W x} (h : sk l = []) (h2 : downM 1 W V = ([x], [])) : Run l false 0 p V W (.ok x)
  | bad {l wants opn p V W} (h : sk l ≠ []) (h2 : ¬ (wordS (sk l) ≠ [] ∧ fitsP wants opn (wordS (sk l)))) : Run l wants opn p V W (.error (sk l, 40))
  | many {l wants opn p V W} (h : sk l ≠ []) (h0 : wordS (sk l) ≠ []) (h2 : fitsP wants opn (wordS (sk l))) (h3 : parenB (wordS (sk l)) = false) (h4 : p = 64) : Run l wants opn p V W (.error (sk l, 5))
  | step {l wants opn p V W V' W' p' R w} (h : sk l ≠ []) (hw : w = wordS (sk l)) (h0 : w ≠ []) (h2 : fitsP wants opn w) (h3 : p' = if parenB w then p else p + 1) (h4 : p' ≤ 64) (h5 : TakeR w wants V W V' W') (h6 : Run ((sk l).drop w.length) (wantsN w wants) (openN w opn) p' V' W' R) : Run l wants opn p V W R
theorem Run.sk {l l' : List UInt8} {wants : Bool} {opn p : Nat} {V : List Tr} {W : List Wt} {R : RM} (hs : sk l = sk l') (h : Run l wants opn p V W R) : Run l' wants opn p V W R := by
  cases h with
  | endErr h h2 => exact .endErr (hs ▸ h) h2
  | endOk h h2 => exact .endOk (hs ▸ h) h2
  | bad h h2 => rw [hs] at h h2 ⊢; exact .bad h h2
  | many h h0 h2 h3 h4 => rw [hs] at h h0 h2 h3 ⊢; exact .many h h0 h2 h3 h4
  | step h hw h0 h2 h3 h4 h5 h6 => rw [hs] at h hw h6; exact .step h hw h0 h2 h3 h4 h5 h6
/-- how much the next operator binds; 1: none comes -/
def nextR (l : List UInt8) : Nat := match wd (sk l) with
  | .bin o => o.rank
  | _ => 1
theorem rank5 (o : Bo) : o.rank ≤ 5 := by cases o <;> decide
theorem nextR_b (l : List UInt8) : 1 ≤ nextR l ∧ nextR l ≤ 5 := by
  unfold nextR
  split
  · exact ⟨bo_rank1 _, rank5 _⟩
  · exact ⟨Nat.le_refl _, by omega⟩
theorem nextR_sk {l l' : List UInt8} (h : sk l = sk l') : nextR l = nextR l' := by unfold nextR; rw [h]
/-- what waits last binds less than k -/
def Top (k : Nat) : List Wt → Prop
  | [] => True
  | .lp :: _ => True
  | .op o :: _ => o.rank < k
  | .sg _ :: _ => False
theorem down_top {k j : Nat} {W : List Wt} {V : List Tr} (h : Top k W) (hj : k ≤ j) : downM j W V = (V, W) := by
  match W, h with
  | [], _ => rfl
  | .lp :: _, _ => rfl
  | .op o :: _, h => unfold Top at h; unfold downM; rw [if_neg (by omega)]
theorem runL_pos {p : UInt8 → Bool} {c : UInt8} {l : List UInt8} : 0 < runL p (c :: l) ↔ p c = true := by
  unfold runL
  split <;> simp_all
theorem word_num {c : UInt8} {u : List UInt8} (hd : isDig c = true) (h : ¬ 18 < runL isDig (c :: u)) : wordS (c :: u) = (c :: u).take (runL isDig (c :: u)) := by
  unfold wordS
  rw [if_pos (runL_pos.2 hd), if_neg h]
theorem word_num_bad {c : UInt8} {u : List UInt8} (hd : isDig c = true) (h : 18 < runL isDig (c :: u)) : wordS (c :: u) = [] := by
  unfold wordS
  rw [if_pos (runL_pos.2 hd), if_pos h]
theorem word_nm {c : UInt8} {u : List UInt8} (hd : ¬ isDig c = true) (hl : isLet c = true) (h : ¬ (1 < runL isLet (c :: u) ∨ ¬ NmP c)) : wordS (c :: u) = [c] := by
  unfold wordS
  rw [if_neg (fun e => hd (runL_pos.1 e)), if_pos (runL_pos.2 hl), if_neg (show ¬ (1 < runL isLet (c :: u) ∨ ¬ NmP ((c :: u).headD 0)) from h)]
  rfl
theorem word_nm_bad {c : UInt8} {u : List UInt8} (hd : ¬ isDig c = true) (hl : isLet c = true) (h : 1 < runL isLet (c :: u) ∨ ¬ NmP c) : wordS (c :: u) = [] := by
  unfold wordS
  rw [if_neg (fun e => hd (runL_pos.1 e)), if_pos (runL_pos.2 hl), if_pos (show 1 < runL isLet (c :: u) ∨ ¬ NmP ((c :: u).headD 0) from h)]
theorem word_wd {c : UInt8} {u : List UInt8} (hd : ¬ isDig c = true) (hl : ¬ isLet c = true) : wordS (c :: u) = (wd (c :: u)).bytes := by
  unfold wordS
  rw [if_neg (fun e => hd (runL_pos.1 e)), if_neg (fun e => hl (runL_pos.1 e))]
theorem wd1_cases {a : UInt8} (h : wd1 a ≠ .none_) : isDig a = false ∧ isLet a = false := by
  unfold wd1 at h
  repeat' split at h
  all_goals first | (subst_vars; exact ⟨by decide, by decide⟩) | exact absurd rfl h
theorem wd2_cases {a b : UInt8} (h : wd2 a b ≠ none) : isDig a = false ∧ isLet a = false := by
  unfold wd2 at h
  repeat' split at h
  all_goals first | (rename_i h1; rw [h1.1]; exact ⟨by decide, by decide⟩) | exact absurd rfl h
theorem wd_cases {c : UInt8} {u : List UInt8} (h : wd (c :: u) ≠ .none_) : isDig c = false ∧ isLet c = false := by
  cases u with
  | nil => exact wd1_cases h
  | cons b u =>
    simp only [wd] at h
    cases h2 : wd2 c b with
    | some o => exact wd2_cases (by rw [h2]; simp)
    | none => rw [h2] at h; exact wd1_cases h
theorem word_of {c : UInt8} {u : List UInt8} {w : Wd} (h : wd (c :: u) = w) (hn : w ≠ .none_) : wordS (c :: u) = w.bytes := by
  obtain ⟨h1, h2⟩ := wd_cases (h ▸ hn)
  rw [word_wd (by simp [h1]) (by simp [h2]), h]
theorem no_op {w : List UInt8} (h : ∀ o : Bo, w ≠ o.bytes) : ¬ ∃ o : Bo, w = o.bytes := fun ⟨o, e⟩ => h o e
theorem bytes_inj {o p : Bo} (h : o.bytes = p.bytes) : o = p := by cases o <;> cases p <;> first | rfl | exact absurd h (by decide)
/-- a word that is no operator and no closing one does not fit behind a value -/
theorem not_fits {c : UInt8} {u : List UInt8} {opn : Nat} (hb : ∀ o, wd (c :: u) ≠ .bin o) (hr : wd (c :: u) ≠ .rp ∨ opn = 0) : ¬ (wordS (c :: u) ≠ [] ∧ fitsP false opn (wordS (c :: u))) := by
  rintro ⟨h0, h⟩
  rcases h with ⟨h, _⟩ | ⟨_, h⟩
  · cases h
  · by_cases hn : wd (c :: u) = .none_
    · have hop : ∀ o : Bo, wordS (c :: u) ≠ o.bytes := by
        intro o e
        by_cases hd : isDig c = true
        · by_cases h18 : 18 < runL isDig (c :: u)
          · exact h0 (word_num_bad hd h18)
          · rw [word_num hd h18] at e
            obtain ⟨k, hk⟩ : ∃ k, runL isDig (c :: u) = k + 1 := ⟨runL isDig (c :: u) - 1, by have := (runL_pos (p := isDig) (l := u)).2 hd; omega⟩
            rw [hk, List.take_succ_cons] at e
            cases o <;> (simp only [Bo.bytes, List.cons.injEq] at e; rw [e.1] at hd; exact absurd hd (by decide))
        · by_cases hl : isLet c = true
          · by_cases hb : 1 < runL isLet (c :: u) ∨ ¬ NmP c
            · exact h0 (word_nm_bad hd hl hb)
            · rw [word_nm hd hl hb] at e
              cases o <;> (simp only [Bo.bytes, List.cons.injEq] at e; rw [e.1] at hl; exact absurd hl (by decide))
          · rw [word_wd hd hl, hn] at h0; exact h0 rfl
      rcases h with ⟨o, e⟩ | ⟨e, _⟩
      · exact hop o e
      · by_cases hd : isDig c = true
        · by_cases h18 : 18 < runL isDig (c :: u)
          · exact h0 (word_num_bad hd h18)
          · rw [word_num hd h18] at e
            obtain ⟨k, hk⟩ : ∃ k, runL isDig (c :: u) = k + 1 := ⟨runL isDig (c :: u) - 1, by have := (runL_pos (p := isDig) (l := u)).2 hd; omega⟩
            rw [hk, List.take_succ_cons] at e
            simp only [List.cons.injEq] at e; rw [e.1] at hd; exact absurd hd (by decide)
        · by_cases hl : isLet c = true
          · by_cases hb : 1 < runL isLet (c :: u) ∨ ¬ NmP c
            · exact h0 (word_nm_bad hd hl hb)
            · rw [word_nm hd hl hb] at e
              simp only [List.cons.injEq] at e; rw [e.1] at hl; exact absurd hl (by decide)
          · rw [word_wd hd hl, hn] at h0; exact h0 rfl
    · rw [word_of rfl hn] at h
      rcases h with ⟨o, e⟩ | ⟨e, h1⟩
      · cases hq : wd (c :: u) with
        | bin o' => exact hb o' hq
        | none_ => exact hn hq
        | not_ => rw [hq] at e; cases o <;> exact absurd e (by decide)
        | lp => rw [hq] at e; cases o <;> exact absurd e (by decide)
        | rp => rw [hq] at e; cases o <;> exact absurd e (by decide)
      · rcases hr with hr | hr
        · cases hq : wd (c :: u) with
          | bin o' => exact hb o' hq
          | none_ => exact hn hq
          | not_ => rw [hq] at e; exact absurd e (by decide)
          | lp => rw [hq] at e; exact absurd e (by decide)
          | rp => exact hr hq
        · omega
theorem takeL_all {p : UInt8 → Bool} : ∀ (l : List UInt8) (c : UInt8), c ∈ l.take (runL p l) → p c = true
  | [], c, h => by simp [runL] at h
  | d :: l, c, h => by
    unfold runL at h
    split at h
    · rename_i hd
      rw [List.take_succ_cons] at h
      rcases List.mem_cons.1 h with rfl | h
      · exact hd
      · exact takeL_all l c h
    · simp at h
def Stop (least : Nat) (r : List UInt8) : Prop := ∀ o, wd (sk r) = .bin o → o.rank < least
theorem loop_stop : ∀ (n least : Nat) (x0 : Tr) (l : List UInt8) (p : Nat) (x : Tr) (r : List UInt8) (q : Nat), loopF n least x0 l p = .ok (x, r, q) → Stop least r
  | 0, least, x0, l, p, x, r, q, h => by simp [loopF] at h
  | n + 1, least, x0, l, p, x, r, q, h => by
    unfold loopF at h
    split at h
    · rename_i o hw
      split at h
      · rename_i hr
        cases h
        intro o' h'
        rw [sk_sk, hw] at h'
        cases h'
        exact hr
      · split at h
        · cases h
        · split at h
          · cases h
          · exact loop_stop n _ _ _ _ _ _ _ h
    · rename_i hw
      cases h
      intro o' h'
      rw [sk_sk] at h'
      exact absurd h' (hw o')
theorem whole_stop {n least p q : Nat} {l r : List UInt8} {x : Tr} (h : wholeF n least l p = .ok (x, r, q)) : Stop least r := by
  cases n with
  | zero => simp [wholeF] at h
  | succ n =>
    unfold wholeF at h
    split at h
    · cases h
    · exact loop_stop _ _ _ _ _ _ _ _ h
theorem Stop.next {o : Bo} {r : List UInt8} (h : Stop (o.rank + 1) r) : nextR r ≤ o.rank := by
  unfold nextR
  split
  · rename_i o' h'; have := h o' h'; omega
  · exact bo_rank1 o
structure Sim (n : Nat) : Prop where
  valueE : ∀ l p e V W opn, 3 * l.length + 1 ≤ n → p ≤ 64 → valueF n l p = .error e → Run l true opn p V W (.error e)
  valueO : ∀ l p x r q V W opn R, p ≤ 64 → valueF n l p = .ok (x, r, q) → (∀ V' W', (∀ k, 1 ≤ k → k ≤ 5 → downM k W' V' = downM k W (x :: V)) → Run r false opn q V' W' R) → Run l true opn p V W R
  wholeE : ∀ least l p e V W opn, 1 ≤ least → Top least W → 3 * l.length + 2 ≤ n → p ≤ 64 → wholeF n least l p = .error e → Run l true opn p V W (.error e)
  wholeO : ∀ least l p x r q V W opn R, 1 ≤ least → Top least W → p ≤ 64 → wholeF n least l p = .ok (x, r, q) → (∀ V' W', downM (nextR r) W' V' = downM (nextR r) W (x :: V) → Run r false opn q V' W' R) → Run l true opn p V W R
  loopE : ∀ least x0 l p e V W V1 W1 opn, 1 ≤ least → Top least W → 3 * l.length + 1 ≤ n → p ≤ 64 → downM (nextR l) W1 V1 = downM (nextR l) W (x0 :: V) → loopF n least x0 l p = .error e → Run l false opn p V1 W1 (.error e)
  loopO : ∀ least x0 l p x r q V W V1 W1 opn R, 1 ≤ least → Top least W → p ≤ 64 → downM (nextR l) W1 V1 = downM (nextR l) W (x0 :: V) → loopF n least x0 l p = .ok (x, r, q) → (∀ V' W', downM (nextR r) W' V' = downM (nextR r) W (x :: V) → Run r false opn q V' W' R) → Run l false opn p V1 W1 R
theorem dig_paren {ds : List UInt8} (h0 : ds ≠ []) (ha : ∀ c ∈ ds, isDig c = true) : ds ≠ [40] ∧ ds ≠ [41] ∧ numB ds = true := by
  cases ds with
  | nil => exact absurd rfl h0
  | cons c u =>
    have hc := ha c List.mem_cons_self
    refine ⟨fun e => ?_, fun e => ?_, hc⟩
    · cases e; exact absurd hc (by decide)
    · cases e; exact absurd hc (by decide)
theorem run_num {c : UInt8} {u l : List UInt8} {p opn : Nat} {V : List Tr} {W : List Wt} {R : RM} (hs : sk l = c :: u) (hd : isDig c = true) (h18 : ¬ 18 < runL isDig (c :: u)) (hp : ¬ 64 < p + 1)
    (h : Run ((c :: u).drop (runL isDig (c :: u))) false opn (p + 1) (.num (decN ((c :: u).take (runL isDig (c :: u)))) :: V) W R) : Run l true opn p V W R := by
  have hw := word_num hd h18
  have hpos : 0 < runL isDig (c :: u) := runL_pos.2 hd
  have hle := runL_le isDig (c :: u)
  have hne : (c :: u).take (runL isDig (c :: u)) ≠ [] := by
    intro e
    have := congrArg List.length e
    rw [List.length_take, List.length_nil] at this
    omega
  have hall := takeL_all (p := isDig) (c :: u)
  obtain ⟨g1, g2, g3⟩ := dig_paren hne hall
  have hlen : ((c :: u).take (runL isDig (c :: u))).length = runL isDig (c :: u) := by rw [List.length_take]; omega
  have hpar : parenB ((c :: u).take (runL isDig (c :: u))) = false := by unfold parenB; simp [g1, g2]
  refine Run.step (w := (c :: u).take (runL isDig (c :: u))) (V' := .num (decN ((c :: u).take (runL isDig (c :: u)))) :: V) (W' := W) (p' := p + 1) (by rw [hs]; simp) (by rw [hs, hw]) hne (.inl ⟨rfl, .inl g3⟩) (by rw [hpar]; rfl) (by omega) (.num hne hall (by omega)) ?_
  rw [hs, hlen]
  have e1 : wantsN ((c :: u).take (runL isDig (c :: u))) true = false := by unfold wantsN; rw [hpar, g3]; rfl
  have e2 : openN ((c :: u).take (runL isDig (c :: u))) opn = opn := by unfold openN; rw [if_neg g1, if_neg g2]
  rw [e1, e2]
  exact h
theorem run_num_many {c : UInt8} {u l : List UInt8} {p opn : Nat} {V : List Tr} {W : List Wt} (hs : sk l = c :: u) (hd : isDig c = true) (h18 : ¬ 18 < runL isDig (c :: u)) (hp : p = 64) : Run l true opn p V W (.error (c :: u, 5)) := by
  have hw := word_num hd h18
  have hpos : 0 < runL isDig (c :: u) := runL_pos.2 hd
  have hle := runL_le isDig (c :: u)
  have hne : (c :: u).take (runL isDig (c :: u)) ≠ [] := by
    intro e
    have := congrArg List.length e
    rw [List.length_take, List.length_nil] at this
    omega
  obtain ⟨g1, g2, g3⟩ := dig_paren hne (takeL_all (p := isDig) (c :: u))
  rw [← hs]
  exact .many (by rw [hs]; simp) (by rw [hs, hw]; exact hne) (by rw [hs, hw]; exact .inl ⟨rfl, .inl g3⟩) (by rw [hs, hw]; unfold parenB; simp [g1, g2]) hp
theorem nm_facts {c : UInt8} (h : NmP c) : isDig c = false ∧ isLet c = true ∧ nameB [c] = true ∧ parenB [c] = false ∧ wantsN [c] true = false ∧ ∀ n, openN [c] n = n := by
  rcases h with rfl | rfl | rfl <;> exact ⟨by decide, by decide, by decide, by decide, by decide, fun n => rfl⟩
theorem op_facts (o : Bo) : o.bytes ≠ [] ∧ parenB o.bytes = false ∧ wantsN o.bytes false = true ∧ ∀ n, openN o.bytes n = n := by
  cases o <;> exact ⟨by decide, by decide, by decide, fun n => rfl⟩
theorem sg_bytes (neg : Bool) : (if neg then Wd.bin .sub_ else Wd.not_).bytes = [sgB neg] := by cases neg <;> rfl
theorem sg_facts (neg : Bool) : fitsP true 0 [sgB neg] ∧ parenB [sgB neg] = false ∧ wantsN [sgB neg] true = true ∧ ∀ n, openN [sgB neg] n = n := by
  cases neg
  · exact ⟨.inl ⟨rfl, .inr (.inr (.inr (.inl rfl)))⟩, by decide, by decide, fun n => rfl⟩
  · exact ⟨.inl ⟨rfl, .inr (.inr (.inl rfl))⟩, by decide, by decide, fun n => rfl⟩
theorem fits_true {opn : Nat} {w : List UInt8} (h : fitsP true 0 w) : fitsP true opn w := by
  rcases h with h | ⟨h, _⟩
  · exact .inl h
  · cases h
theorem take_sg {neg : Bool} {V : List Tr} {W : List Wt} : TakeR [sgB neg] true V W V (.sg neg :: W) := by
  cases neg
  · exact .not
  · exact .neg
theorem sgB_of {c : UInt8} {u : List UInt8} {neg : Bool} (h : wd (c :: u) = if neg then .bin .sub_ else .not_) : c = sgB neg := by
  have hw1 : ∀ a, wd1 a = .bin .sub_ → a = 45 := by
    intro a h
    unfold wd1 at h
    repeat' split at h
    all_goals first | assumption | cases h
  have hw2 : ∀ a, wd1 a = .not_ → a = 33 := by
    intro a h
    unfold wd1 at h
    repeat' split at h
    all_goals first | assumption | cases h
  have hw3 : ∀ a b, wd2 a b ≠ some .sub_ := by
    intro a b h
    unfold wd2 at h
    repeat' split at h
    all_goals cases h
  cases neg
  · cases u with
    | nil => exact hw2 c h
    | cons b u =>
      simp only [wd] at h
      cases h2 : wd2 c b with
      | some o => rw [h2] at h; cases h
      | none => rw [h2] at h; exact hw2 c h
  · cases u with
    | nil => exact hw1 c h
    | cons b u =>
      simp only [wd] at h
      cases h2 : wd2 c b with
      | some o => rw [h2] at h; exact absurd (by cases h; rfl) (hw3 c b |> fun k e => k (h2.trans e))
      | none => rw [h2] at h; exact hw1 c h
theorem lp_of {c : UInt8} {u : List UInt8} {w : Wd} {a : UInt8} (h : wd (c :: u) = w) (hw : w = .lp ∧ a = 40 ∨ w = .rp ∧ a = 41) : c = a := by
  have hw1 : ∀ b, (wd1 b = .lp → b = 40) ∧ (wd1 b = .rp → b = 41) := by
    intro b
    constructor
    all_goals
      intro h
      unfold wd1 at h
      repeat' split at h
      all_goals first | assumption | cases h
  have hd : wd1 c = w := by
    cases u with
    | nil => exact h
    | cons b u =>
      simp only [wd] at h
      cases h2 : wd2 c b with
      | some o => rw [h2] at h; rcases hw with ⟨e, _⟩ | ⟨e, _⟩ <;> (rw [e] at h; cases h)
      | none => rw [h2] at h; exact h
  rcases hw with ⟨e, rfl⟩ | ⟨e, rfl⟩
  · exact (hw1 c).1 (hd.trans e)
  · exact (hw1 c).2 (hd.trans e)
end Go.Expr
