/-
  Layer 4: the reader with two stacks answers as the other: plain words.
-/
import Derived.Test.YtoeglkkmjmhmiaaDoorExprMach
set_option linter.unusedVariables false
set_option linter.unusedSimpArgs false
namespace Go.Expr

theorem sk_length' (l : List UInt8) : (sk l).length ≤ l.length := (sk_suffix l).length_le
theorem nextR_bin {l : List UInt8} {o : Bo} (h : wd (sk l) = .bin o) : nextR l = o.rank := by unfold nextR; rw [h]
theorem run_sg {c : UInt8} {u l : List UInt8} {p opn : Nat} {V : List Tr} {W : List Wt} {R : RM} {neg : Bool} (hs : sk l = c :: u) (hw : wd (c :: u) = if neg then .bin .sub_ else .not_) (hp : ¬ 64 < p + 1)
    (h : Run u true opn (p + 1) V (.sg neg :: W) R) : Run l true opn p V W R := by
  have hn : (if neg then Wd.bin .sub_ else Wd.not_) ≠ .none_ := by cases neg <;> simp
  have hwd := word_of hw hn
  rw [sg_bytes] at hwd
  obtain ⟨f1, f2, f3, f4⟩ := sg_facts neg
  refine Run.step (w := [sgB neg]) (p' := p + 1) (by rw [hs]; simp) (by rw [hs, hwd]) (by simp) (fits_true f1) (by rw [f2]; rfl) (by omega) take_sg ?_
  rw [hs, f3, f4]
  exact h
theorem run_sg_many {c : UInt8} {u l : List UInt8} {p opn : Nat} {V : List Tr} {W : List Wt} {neg : Bool} (hs : sk l = c :: u) (hw : wd (c :: u) = if neg then .bin .sub_ else .not_) (hp : p = 64) : Run l true opn p V W (.error (c :: u, 5)) := by
  have hn : (if neg then Wd.bin .sub_ else Wd.not_) ≠ .none_ := by cases neg <;> simp
  have hwd := word_of hw hn
  rw [sg_bytes] at hwd
  obtain ⟨f1, f2, f3, f4⟩ := sg_facts neg
  rw [← hs]
  exact .many (by rw [hs]; simp) (by rw [hs, hwd]; simp) (by rw [hs, hwd]; exact fits_true f1) (by rw [hs, hwd]; exact f2) hp
theorem run_lp {c : UInt8} {u l : List UInt8} {p opn : Nat} {V : List Tr} {W : List Wt} {R : RM} (hs : sk l = c :: u) (hw : wd (c :: u) = .lp) (hp : p ≤ 64)
    (h : Run u true (opn + 1) p V (.lp :: W) R) : Run l true opn p V W R := by
  have hwd := word_of hw (by simp)
  refine Run.step (w := [40]) (p' := p) (by rw [hs]; simp) (by rw [hs, hwd]; rfl) (by simp) (.inl ⟨rfl, .inr (.inr (.inr (.inr rfl)))⟩) rfl hp .lp ?_
  rw [hs]
  exact h
theorem run_rp {c : UInt8} {u l : List UInt8} {p opn : Nat} {V V' : List Tr} {W W' : List Wt} {R : RM} (hs : sk l = c :: u) (hw : wd (c :: u) = .rp) (hp : p ≤ 64) (hd : downM 1 W V = (V', .lp :: W'))
    (h : Run u false opn p V' W' R) : Run l false (opn + 1) p V W R := by
  have hwd := word_of hw (by simp)
  refine Run.step (w := [41]) (p' := p) (by rw [hs]; simp) (by rw [hs, hwd]; rfl) (by simp) (.inr ⟨rfl, .inr ⟨rfl, by omega⟩⟩) rfl hp (.rp hd) ?_
  rw [hs]
  exact h
theorem run_op {l : List UInt8} {p opn : Nat} {V : List Tr} {W : List Wt} {R : RM} {o : Bo} (hw : wd (sk l) = .bin o) (hp : ¬ 64 < p + 1)
    (h : Run ((sk l).drop o.bytes.length) true opn (p + 1) (downM o.rank W V).1 (.op o :: (downM o.rank W V).2) R) : Run l false opn p V W R := by
  cases hs : sk l with
  | nil => rw [hs] at hw; cases hw
  | cons c u =>
    rw [hs] at hw h
    have hwd := word_of hw (by simp)
    obtain ⟨f1, f2, f3, f4⟩ := op_facts o
    refine Run.step (w := o.bytes) (p' := p + 1) (by rw [hs]; simp) (by rw [hs, hwd]; rfl) f1 (.inr ⟨rfl, .inl ⟨o, rfl⟩⟩) (by rw [f2]; rfl) (by omega) (.op o) ?_
    rw [hs, f3, f4]
    exact h
theorem run_op_many {l : List UInt8} {p opn : Nat} {V : List Tr} {W : List Wt} {o : Bo} (hw : wd (sk l) = .bin o) (hp : p = 64) : Run l false opn p V W (.error (sk l, 5)) := by
  cases hs : sk l with
  | nil => rw [hs] at hw; cases hw
  | cons c u =>
    rw [hs] at hw
    have hwd := word_of hw (by simp)
    obtain ⟨f1, f2, f3, f4⟩ := op_facts o
    rw [← hs]
    exact .many (by rw [hs]; simp) (by rw [hs, hwd]; exact f1) (by rw [hs, hwd]; exact .inr ⟨rfl, .inl ⟨o, rfl⟩⟩) (by rw [hs, hwd]; exact f2) hp
theorem run_stuck {l : List UInt8} {c : UInt8} {u : List UInt8} {p opn : Nat} {V : List Tr} {W : List Wt} (hs : sk l = c :: u) (hb : ∀ o, wd (c :: u) ≠ .bin o) (hr : wd (c :: u) ≠ .rp ∨ opn = 0) : Run l false opn p V W (.error (c :: u, 40)) := by
  have h := not_fits (opn := opn) hb hr
  rw [← hs] at h ⊢
  exact .bad (by rw [hs]; simp) h
/-- a word that begins no value -/
theorem run_other {l : List UInt8} {c : UInt8} {u : List UInt8} {p opn : Nat} {V : List Tr} {W : List Wt} (hs : sk l = c :: u) (hd : ¬ isDig c = true) (hl : ¬ isLet c = true) (h1 : wd (c :: u) ≠ .bin .sub_) (h2 : wd (c :: u) ≠ .not_) (h3 : wd (c :: u) ≠ .lp) : Run l true opn p V W (.error (c :: u, 40)) := by
  rw [← hs]
  refine .bad (by rw [hs]; simp) ?_
  rw [hs, word_wd hd hl]
  rintro ⟨g0, g⟩
  rcases g with ⟨_, g⟩ | ⟨g, _⟩
  · cases hq : wd (c :: u) with
    | none_ => rw [hq] at g0; exact g0 rfl
    | not_ => exact h2 hq
    | lp => exact h3 hq
    | rp => rw [hq] at g; rcases g with g | g | g | g | g <;> exact absurd g (by decide)
    | bin o =>
      rw [hq] at g h1
      cases o
      case sub_ => exact h1 rfl
      all_goals rcases g with g | g | g | g | g <;> exact absurd g (by decide)
  · cases g
theorem sim : ∀ n, Sim n
  | 0 => ⟨fun l p e V W opn h => absurd h (by omega), fun l p x r q V W opn R _ h => by (simp [valueF] at h), fun least l p e V W opn _ _ h => absurd h (by omega), fun least l p x r q V W opn R _ _ _ h => by (simp [wholeF] at h), fun least x0 l p e V W V1 W1 opn _ _ h => absurd h (by omega), fun least x0 l p x r q V W V1 W1 opn R _ _ _ _ h => by (simp [loopF] at h)⟩
  | n + 1 => by
    have ih := sim n
    refine ⟨fun l p e V W opn hn hp h => ?_, fun l p x r q V W opn R hp h K => ?_, fun least l p e V W opn h1 hT hn hp h => ?_, fun least l p x r q V W opn R h1 hT hp h K => ?_, fun least x0 l p e V W V1 W1 opn h1 hT hn hp hD h => ?_, fun least x0 l p x r q V W V1 W1 opn R h1 hT hp hD h K => ?_⟩
    · have hsl := sk_length' l
      unfold valueF at h
      cases hsk : sk l with
      | nil => rw [hsk] at h; cases h; exact .endErr hsk (.inl rfl)
      | cons c u =>
        rw [hsk] at h hsl
        simp only [List.length_cons] at hsl
        dsimp only at h
        by_cases hd : isDig c = true
        · rw [if_pos hd] at h
          unfold numberS at h
          by_cases h18 : 18 < runL isDig (c :: u)
          · rw [if_pos h18] at h
            cases h
            rw [← hsk]
            exact .bad (by rw [hsk]; simp) (by rw [hsk, word_num_bad hd h18]; simp)
          · rw [if_neg h18] at h
            split at h
            · cases h; exact run_num_many hsk hd h18 (by omega)
            · cases h
        · rw [if_neg hd] at h
          by_cases hl : isLet c = true
          · rw [if_pos hl] at h
            unfold nameS at h
            by_cases hb : 1 < runL isLet (c :: u) ∨ ¬ NmP c
            · rw [if_pos (hb.imp id fun hq => ⟨fun e => hq (.inl e), fun e => hq (.inr (.inl e)), fun e => hq (.inr (.inr e))⟩)] at h
              cases h
              rw [← hsk]
              exact .bad (by rw [hsk]; simp) (by rw [hsk, word_nm_bad hd hl hb]; simp)
            · have hnm : NmP c := Decidable.not_not.1 fun e => hb (.inr e)
              rw [if_neg (by rintro (e | ⟨e1, e2, e3⟩); exact hb (.inl e); rcases hnm with e | e | e <;> contradiction)] at h
              split at h
              · cases h
                have hw := word_nm hd hl hb
                obtain ⟨f1, f2, f3, f4, f5, f6⟩ := nm_facts hnm
                rw [← hsk]
                exact .many (by rw [hsk]; simp) (by rw [hsk, hw]; simp) (by rw [hsk, hw]; exact .inl ⟨rfl, .inr (.inl f3)⟩) (by rw [hsk, hw]; exact f4) (by omega)
              · cases h
          · rw [if_neg hl] at h
            split at h
            · rename_i hw
              split at h
              · cases h; exact run_sg_many (neg := true) hsk hw (by omega)
              · rename_i h64
                split at h
                · rename_i hv; cases h; exact run_sg (neg := true) hsk hw h64 (ih.valueE _ _ _ _ _ _ (by omega) (by omega) hv)
                · cases h
            · rename_i hw
              split at h
              · cases h; exact run_sg_many (neg := false) hsk hw (by omega)
              · rename_i h64
                split at h
                · rename_i hv; cases h; exact run_sg (neg := false) hsk hw h64 (ih.valueE _ _ _ _ _ _ (by omega) (by omega) hv)
                · cases h
            · rename_i hw
              split at h
              · rename_i hv; cases h; exact run_lp hsk hw hp (ih.wholeE 1 _ _ _ _ _ _ (by omega) trivial (by omega) hp hv)
              · rename_i x r q hv
                have g := (good n).whole _ _ _ _ _ _ hv
                have hst := whole_stop hv
                refine run_lp hsk hw hp (ih.wholeO 1 _ _ _ _ _ _ _ _ _ (by omega) trivial hp hv fun V' W' hD => ?_)
                split at h
                · rename_i hr; cases h; exact .endErr hr (.inr (by omega))
                · rename_i d r2 hr
                  split at h
                  · cases h
                  · rename_i hrp
                    cases h
                    exact run_stuck hr (fun o e => by have := hst o (by rw [hr]; exact e); have := bo_rank1 o; omega) (.inl hrp)
            · rename_i g1 g2 g3
              cases h
              exact run_other hsk hd hl g1 g2 g3
    · unfold valueF at h
      cases hsk : sk l with
      | nil => rw [hsk] at h; cases h
      | cons c u =>
        rw [hsk] at h
        dsimp only at h
        by_cases hd : isDig c = true
        · rw [if_pos hd] at h
          unfold numberS at h
          by_cases h18 : 18 < runL isDig (c :: u)
          · rw [if_pos h18] at h; cases h
          · rw [if_neg h18] at h
            split at h
            · cases h
            · rename_i h64; cases h; exact run_num hsk hd h18 h64 (K _ _ fun _ _ _ => rfl)
        · rw [if_neg hd] at h
          by_cases hl : isLet c = true
          · rw [if_pos hl] at h
            unfold nameS at h
            by_cases hb : 1 < runL isLet (c :: u) ∨ ¬ NmP c
            · rw [if_pos (hb.imp id fun hq => ⟨fun e => hq (.inl e), fun e => hq (.inr (.inl e)), fun e => hq (.inr (.inr e))⟩)] at h
              cases h
            · have hnm : NmP c := Decidable.not_not.1 fun e => hb (.inr e)
              rw [if_neg (by rintro (e | ⟨e1, e2, e3⟩); exact hb (.inl e); rcases hnm with e | e | e <;> contradiction)] at h
              split at h
              · cases h
              · rename_i h64
                cases h
                have hw := word_nm hd hl hb
                obtain ⟨f1, f2, f3, f4, f5, f6⟩ := nm_facts hnm
                refine Run.step (w := [c]) (p' := p + 1) (by rw [hsk]; simp) (by rw [hsk, hw]) (by simp) (.inl ⟨rfl, .inr (.inl f3)⟩) (by rw [f4]; rfl) (by omega) (.nm hnm) ?_
                rw [hsk, f5, f6]
                exact K _ _ fun _ _ _ => rfl
          · rw [if_neg hl] at h
            have sg : ∀ neg : Bool, wd (c :: u) = (if neg then .bin .sub_ else .not_) → ¬ 64 < p + 1 → ∀ x' r' q', valueF n u (p + 1) = .ok (x', r', q') → (.sg neg x', r', q') = (x, r, q) → Run l true opn p V W R := fun neg hw h64 x' r' q' hv he => by
              cases he
              refine run_sg hsk hw h64 (ih.valueO _ _ _ _ _ _ _ _ _ (by omega) hv fun V' W' hD => K V' W' fun k hk1 hk5 => ?_)
              rw [hD k hk1 hk5]
              show (if k ≤ 6 then _ else _) = _
              rw [if_pos (by omega)]
            split at h
            · rename_i hw
              split at h
              · cases h
              · rename_i h64
                split at h
                · cases h
                · rename_i x' r' q' hv; cases h; exact sg true hw h64 _ _ _ hv rfl
            · rename_i hw
              split at h
              · cases h
              · rename_i h64
                split at h
                · cases h
                · rename_i x' r' q' hv; cases h; exact sg false hw h64 _ _ _ hv rfl
            · rename_i hw
              split at h
              · cases h
              · rename_i x' r' q' hv
                have hst := whole_stop hv
                have g := (good n).whole _ _ _ _ _ _ hv
                refine run_lp hsk hw hp (ih.wholeO 1 _ _ _ _ _ _ _ _ _ (by omega) trivial hp hv fun V' W' hD => ?_)
                split at h
                · cases h
                · rename_i d r2 hr
                  split at h
                  · rename_i hrp
                    cases h
                    have hnx : nextR r' = 1 := by unfold nextR; rw [hr, hrp]
                    rw [hnx] at hD
                    exact run_rp hr hrp g.most hD (K _ _ fun _ _ _ => rfl)
                  · cases h
            · cases h
    · unfold wholeF at h
      split at h
      · rename_i hv; cases h; exact ih.valueE _ _ _ _ _ _ (by omega) hp hv
      · rename_i x r q hv
        have g := (good n).value _ _ _ _ _ hv
        have g1 := g.lt
        have hb := nextR_b r
        exact ih.valueO _ _ _ _ _ _ _ _ _ hp hv fun V' W' hD => ih.loopE _ _ _ _ _ V W _ _ _ h1 hT (by omega) g.most (hD _ hb.1 hb.2) h
    · unfold wholeF at h
      split at h
      · cases h
      · rename_i x' r' q' hv
        have g := (good n).value _ _ _ _ _ hv
        have hb := nextR_b r'
        exact ih.valueO _ _ _ _ _ _ _ _ _ hp hv fun V' W' hD => ih.loopO _ _ _ _ _ _ _ V W _ _ _ _ h1 hT g.most (hD _ hb.1 hb.2) h K
    · have hsl := sk_length' l
      unfold loopF at h
      split at h
      · rename_i o hw
        have hwl := wd_len hw
        split at h
        · cases h
        · rename_i hr
          split at h
          · cases h; exact run_op_many hw (by omega)
          · rename_i h64
            have hdl : ((sk l).drop o.bytes.length).length = (sk l).length - o.bytes.length := List.length_drop
            rw [nextR_bin hw, down_top hT (j := o.rank) (by omega)] at hD
            refine run_op hw h64 ?_
            rw [hD]
            have hT2 : Top (o.rank + 1) (.op o :: W) := by unfold Top; omega
            split at h
            · rename_i hv; cases h; exact ih.wholeE _ _ _ _ _ _ _ (by omega) hT2 (by omega) (by omega) hv
            · rename_i y r1 q1 hv
              have g := (good n).whole _ _ _ _ _ _ hv
              have g1 := g.lt
              have hnx := (whole_stop hv).next
              refine ih.wholeO _ _ _ _ _ _ _ _ _ _ (by omega) hT2 (by omega) hv fun V' W' hD' => ?_
              refine ih.loopE _ _ _ _ _ V W _ _ _ h1 hT (by omega) g.most ?_ h
              rw [hD']
              show (if nextR r1 ≤ o.rank then _ else _) = _
              rw [if_pos hnx]
      · cases h
    · unfold loopF at h
      split at h
      · rename_i o hw
        have hwl := wd_len hw
        split at h
        · rename_i hr
          cases h
          have hD2 : downM (nextR (sk l)) W1 V1 = downM (nextR (sk l)) W (x0 :: V) := by rw [nextR_sk (sk_sk l)]; exact hD
          exact (K V1 W1 hD2).sk (sk_sk l)
        · rename_i hr
          split at h
          · cases h
          · rename_i h64
            rw [nextR_bin hw, down_top hT (j := o.rank) (by omega)] at hD
            refine run_op hw h64 ?_
            rw [hD]
            have hT2 : Top (o.rank + 1) (.op o :: W) := by unfold Top; omega
            split at h
            · cases h
            · rename_i y r1 q1 hv
              have g := (good n).whole _ _ _ _ _ _ hv
              have hnx := (whole_stop hv).next
              refine ih.wholeO _ _ _ _ _ _ _ _ _ _ (by omega) hT2 (by omega) hv fun V' W' hD' => ?_
              refine ih.loopO _ _ _ _ _ _ _ V W _ _ _ _ h1 hT g.most ?_ h K
              rw [hD']
              show (if nextR r1 ≤ o.rank then _ else _) = _
              rw [if_pos hnx]
      · cases h
        have hD2 : downM (nextR (sk l)) W1 V1 = downM (nextR (sk l)) W (x0 :: V) := by rw [nextR_sk (sk_sk l)]; exact hD
        exact (K V1 W1 hD2).sk (sk_sk l)
/-- what the other reader answers -/
def ansM (s : List UInt8) : RM := match wholeF (3 * s.length + 2) 1 s 0 with
  | .error e => .error e
  | .ok (x, r, _) => if sk r = [] then .ok x else .error (sk r, 40)
theorem run_ans (s : List UInt8) : Run s true 0 0 [] [] (ansM s) := by
  unfold ansM
  cases h : wholeF (3 * s.length + 2) 1 s 0 with
  | error e => exact (sim _).wholeE 1 _ _ _ _ _ _ (by omega) trivial (by omega) (by omega) h
  | ok x =>
    obtain ⟨x, r, q⟩ := x
    have hst := whole_stop h
    have hb : ∀ o, wd (sk r) ≠ .bin o := fun o e => by have := hst o e; have := bo_rank1 o; omega
    have hnx : nextR r = 1 := by
      unfold nextR
      split
      · rename_i o e; exact absurd e (hb o)
      · rfl
    refine (sim _).wholeO 1 _ _ _ _ _ _ _ _ _ (by omega) trivial (by omega) h fun V' W' hD => ?_
    rw [hnx] at hD
    dsimp only
    cases hs : sk r with
    | nil => rw [if_pos rfl]; exact .endOk hs hD
    | cons c u => rw [if_neg (by simp)]; rw [hs] at hb; exact run_stuck hs hb (.inr rfl)
def posR (s : List UInt8) : RM → Except (Nat × Int) Tr
  | .error (r, e) => .error (s.length - r.length, e)
  | .ok x => .ok x
theorem parse_ans {s : List UInt8} (hl : s.length ≤ 200) : parseS s = posR s (ansM s) := by
  unfold parseS ansM
  rw [if_neg (by omega)]
  cases wholeF (3 * s.length + 2) 1 s 0 with
  | error e => rfl
  | ok x =>
    obtain ⟨x, r, q⟩ := x
    dsimp only
    split <;> rfl
end Go.Expr
