/-
  Layer 4: an expression's text is read as that expression; what is wrong with a text: plain words.
-/
import Derived.Test.YtoeglkkmjmhmiaaDoorExprComp
import Derived.Test.YtoeglkkmjmhmiaaDoorExprSpecH
set_option linter.unusedVariables false
set_option linter.unusedSimpArgs false
namespace Go.Proofs.YtoeglkkmjmhmiaaDoor
open Go.Expr

theorem dig_ofNat {k : Nat} (h : k < 10) : isDig (UInt8.ofNat (48 + k)) = true ∧ (UInt8.ofNat (48 + k)).toNat - 48 = k := by
  match k, h with
  | 0, _ | 1, _ | 2, _ | 3, _ | 4, _ | 5, _ | 6, _ | 7, _ | 8, _ | 9, _ => exact ⟨rfl, rfl⟩
theorem decN_snoc (l : List UInt8) (c : UInt8) : decN (l ++ [c]) = 10 * decN l + (c.toNat - 48) := by unfold decN; rw [List.foldl_append]; rfl
theorem dd (u : Nat) : (∀ c ∈ Lib.decDigits u, isDig c = true) ∧ decN (Lib.decDigits u) = u ∧ Lib.decDigits u ≠ [] := by
  induction u using Nat.strongRecOn with
  | ind u ih =>
    by_cases h : u < 10
    · rw [Lib.decDigits_one h]
      have := dig_ofNat h
      refine ⟨fun c hc => ?_, ?_, by simp⟩
      · simp only [List.mem_singleton] at hc; rw [hc]; exact this.1
      · unfold decN; simp only [List.foldl_cons, List.foldl_nil]; omega
    · rw [Lib.decDigits, dif_neg h]
      obtain ⟨h1, h2, h3⟩ := ih (u / 10) (by omega)
      have := dig_ofNat (k := u % 10) (by omega)
      refine ⟨fun c hc => ?_, ?_, by simp⟩
      · rcases List.mem_append.1 hc with hc | hc
        · exact h1 c hc
        · simp only [List.mem_singleton] at hc; rw [hc]; exact this.1
      · rw [decN_snoc, h2, this.2]; omega
theorem nd_le : ∀ (k u : Nat), u < 10 ^ (k + 1) → Lib.nDigits u ≤ k + 1
  | 0, u, h => by rw [Lib.nDigits_small (by simpa using h)]; omega
  | k + 1, u, h => by
    by_cases h10 : u < 10
    · rw [Lib.nDigits_small h10]; omega
    · rw [Lib.nDigits_big h10]
      have := nd_le k (u / 10) (by rw [Nat.pow_succ] at h; omega)
      omega
theorem runL_all {p : UInt8 → Bool} : ∀ {l : List UInt8}, (∀ c ∈ l, p c = true) → runL p l = l.length
  | [], _ => rfl
  | c :: l, h => by simp only [runL, h c List.mem_cons_self, if_true, List.length_cons]; rw [runL_all fun c hc => h c (List.mem_cons_of_mem _ hc)]
theorem dig_ne {c : UInt8} (h : isDig c = true) : c ≠ 61 ∧ c ≠ 32 := by
  constructor
  · rintro rfl; exact absurd h (by decide)
  · rintro rfl; exact absurd h (by decide)
theorem txt_num (n : Nat) : txt (.num n) = Lib.decDigits n := Lib.itoa_nonneg n
theorem txt_head : ∀ {x : Tr}, Sm x → ∃ c u, txt x = c :: u ∧ c ≠ 61 ∧ c ≠ 32
  | .num n, _ => by
    obtain ⟨h1, _, h3⟩ := dd n
    rw [txt_num]
    cases hq : Lib.decDigits n with
    | nil => exact absurd hq h3
    | cons c u => exact ⟨c, u, rfl, dig_ne (h1 c (by rw [hq]; exact List.mem_cons_self))⟩
  | .nm c, h => ⟨c, [], rfl, by rcases h with rfl | rfl | rfl <;> exact ⟨by decide, by decide⟩⟩
  | .sg true x, _ => ⟨45, _, rfl, by decide, by decide⟩
  | .sg false x, _ => ⟨33, _, rfl, by decide, by decide⟩
  | .bn o x y, _ => ⟨40, _, rfl, by decide, by decide⟩
theorem sk_txt {x : Tr} (h : Sm x) (t : List UInt8) : sk (txt x ++ t) = txt x ++ t := by
  obtain ⟨c, u, e, _, h32⟩ := txt_head h
  rw [e]
  exact sk_cons h32
theorem loop_rp {n least p : Nat} {x : Tr} {t : List UInt8} : loopF (n + 1) least x (41 :: t) p = .ok (x, 41 :: t, p) := by
  unfold loopF
  rw [show sk (41 :: t) = 41 :: t from sk_cons (by decide), wd_rp]
theorem rt : ∀ (x : Tr), Sm x → ∀ (m p : Nat) (l t : List UInt8), Hd t → 3 * (txt x).length + 1 ≤ m → sk l = txt x ++ t → p + Expr.sizeT x ≤ 64 → valueF m l p = .ok (x, t, p + Expr.sizeT x)
  | .num n, hs, m, p, l, t, ht, hm, hl, hp => by
    obtain ⟨m, rfl⟩ : ∃ k, m = k + 1 := ⟨m - 1, by omega⟩
    obtain ⟨h1, h2, h3⟩ := dd n
    have hn : n < 1000000000000000000 := hs
    have hlen : (Lib.decDigits n).length ≤ 18 := by rw [Lib.decDigits_length]; exact nd_le 17 n (by simpa using hn)
    have hrun : runL isDig (Lib.decDigits n ++ t) = (Lib.decDigits n).length := by rw [runL_app (hd_dig ht), runL_all h1]
    rw [txt_num] at hl
    simp only [Expr.sizeT] at hp ⊢
    unfold valueF
    rw [hl]
    cases hq : Lib.decDigits n with
    | nil => exact absurd hq h3
    | cons c u =>
      dsimp only [List.cons_append]
      rw [if_pos (h1 c (by rw [hq]; exact List.mem_cons_self))]
      show numberS (c :: u ++ t) p = _
      rw [← hq]
      unfold numberS
      rw [hrun, if_neg (by omega), if_neg (by omega), List.take_left, List.drop_left, h2]
  | .nm c, hs, m, p, l, t, ht, hm, hl, hp => by
    obtain ⟨m, rfl⟩ : ∃ k, m = k + 1 := ⟨m - 1, by omega⟩
    have hl : sk l = c :: t := hl
    simp only [Expr.sizeT] at hp ⊢
    unfold valueF
    rw [hl]
    dsimp only
    have hd : ¬ isDig c = true := by rcases hs with rfl | rfl | rfl <;> decide
    have hlt : isLet c = true := by rcases hs with rfl | rfl | rfl <;> decide
    rw [if_neg hd, if_pos hlt]
    unfold nameS
    have hrun : runL isLet (c :: t) = 1 := by
      have := runL_app (p := isLet) (l := [c]) (hd_let ht)
      simp only [List.cons_append, List.nil_append] at this
      rw [this]; simp [runL, hlt]
    rw [hrun, if_neg (by rintro (h | h); omega; rcases hs with rfl | rfl | rfl <;> simp at h), if_neg (by omega)]
    rfl
  | .sg neg x, hs, m, p, l, t, ht, hm, hl, hp => by
    obtain ⟨m, rfl⟩ : ∃ k, m = k + 1 := ⟨m - 1, by omega⟩
    have htx : txt (.sg neg x) = sgB neg :: txt x := by cases neg <;> rfl
    rw [htx] at hl hm
    simp only [Expr.sizeT, List.length_cons] at hp hm ⊢
    obtain ⟨c, u, e, h61, _⟩ := txt_head (x := x) hs
    have hx : Sm x := hs
    rw [val_sg (neg := neg) (u := txt x ++ t) hl (fun _ => by rw [e]; simpa using h61), if_neg (by omega), rt x hx m (p + 1) (txt x ++ t) t ht (by omega) (sk_txt hx t) (by omega)]
    dsimp only
    congr 3
    omega
  | .bn o x y, hs, m, p, l, t, ht, hm, hl, hp => by
    obtain ⟨m, rfl⟩ : ∃ k, m = k + 4 + 1 := ⟨m - 5, by simp only [txt, List.length_cons, List.length_append, List.length_nil] at hm; omega⟩
    simp only [txt, List.length_cons, List.length_append, List.length_nil] at hm
    simp only [Expr.sizeT] at hp ⊢
    have hl : sk l = 40 :: (txt x ++ 32 :: (o.bytes ++ 32 :: (txt y ++ 41 :: t))) := by rw [hl]; simp [txt]
    have ho := bo_len1 o
    have e1 := rt x hs.1 (m + 3) p (txt x ++ 32 :: (o.bytes ++ 32 :: (txt y ++ 41 :: t))) (32 :: (o.bytes ++ 32 :: (txt y ++ 41 :: t))) (by intro c hc; cases hc; exact .inl rfl) (by omega) (sk_txt hs.1 _) (by omega)
    have e2 := rt y hs.2 (m + 1) (p + Expr.sizeT x + 1) (32 :: (txt y ++ 41 :: t)) (41 :: t) (by intro c hc; cases hc; exact .inr rfl) (by omega) (by show sk (txt y ++ 41 :: t) = _; exact sk_txt hs.2 _) (by omega)
    have e3 : wholeF (m + 2) (o.rank + 1) (32 :: (txt y ++ 41 :: t)) (p + Expr.sizeT x + 1) = .ok (y, 41 :: t, p + Expr.sizeT x + 1 + Expr.sizeT y) := by
      show wholeF (m + 1 + 1) _ _ _ = _
      unfold wholeF
      rw [e2]
      exact loop_rp
    have e4 : loopF (m + 3) 1 x (32 :: (o.bytes ++ 32 :: (txt y ++ 41 :: t))) (p + Expr.sizeT x) = .ok (.bn o x y, 41 :: t, p + Expr.sizeT x + 1 + Expr.sizeT y) := by
      show loopF (m + 2 + 1) _ _ _ _ = _
      unfold loopF
      rw [show sk (32 :: (o.bytes ++ 32 :: (txt y ++ 41 :: t))) = o.bytes ++ 32 :: (txt y ++ 41 :: t) from sk_op o _, wd_op o (.inr rfl)]
      dsimp only
      rw [if_neg (by have := bo_rank1 o; omega), if_neg (by omega), List.drop_left, e3]
      exact loop_rp
    rw [val_lp hl]
    have e5 : wholeF (m + 4) 1 (txt x ++ 32 :: (o.bytes ++ 32 :: (txt y ++ 41 :: t))) p = .ok (.bn o x y, 41 :: t, p + Expr.sizeT x + 1 + Expr.sizeT y) := by
      show wholeF (m + 3 + 1) _ _ _ = _
      unfold wholeF
      rw [e1]
      exact e4
    rw [e5]
    dsimp only
    rw [show sk (41 :: t) = 41 :: t from sk_cons (by decide)]
    dsimp only
    rw [if_pos wd_rp]
    congr 3
    omega
theorem txt_parse {x : Tr} (hs : Sm x) (hz : Expr.sizeT x ≤ 64) (hl : (txt x).length ≤ 200) : parseS (txt x) = .ok x :=
  top_ok hl (rt x hs _ 0 (txt x) [] (by intro c hc; cases hc) (Nat.le_refl _) (by have := sk_txt hs []; rwa [List.append_nil] at this ⊢) (by omega)) rfl
/-! what is wrong with a text -/
def Er (e : Int) : Prop := e = 5 ∨ e = 40 ∨ e = 41
structure Bads (n : Nat) : Prop where
  value : ∀ l p r e, 3 * l.length + 1 ≤ n → valueF n l p = .error (r, e) → Er e
  whole : ∀ least l p r e, 3 * l.length + 2 ≤ n → wholeF n least l p = .error (r, e) → Er e
  loop : ∀ least x0 l p r e, 3 * l.length + 1 ≤ n → loopF n least x0 l p = .error (r, e) → Er e
theorem numberS_er {l r : List UInt8} {p : Nat} {e : Int} (h : numberS l p = .error (r, e)) : Er e := by
  unfold numberS at h
  split at h
  · cases h; exact .inr (.inl rfl)
  · split at h
    · cases h; exact .inl rfl
    · cases h
theorem nameS_er {c : UInt8} {l r : List UInt8} {p : Nat} {e : Int} (h : nameS c l p = .error (r, e)) : Er e := by
  unfold nameS at h
  split at h
  · cases h; exact .inr (.inl rfl)
  · split at h
    · cases h; exact .inl rfl
    · cases h
theorem bads : ∀ n, Bads n
  | 0 => ⟨fun l p r e h => absurd h (by omega), fun least l p r e h => absurd h (by omega), fun least x0 l p r e h => absurd h (by omega)⟩
  | n + 1 => by
    have ih := bads n
    refine ⟨fun l p r e hn h => ?_, fun least l p r e hn h => ?_, fun least x0 l p r e hn h => ?_⟩
    · have hsl := sk_length l
      unfold valueF at h
      split at h
      · cases h; exact .inr (.inr rfl)
      · rename_i c l1 hsk
        rw [hsk] at hsl
        simp only [List.length_cons] at hsl
        split at h
        · exact numberS_er h
        · split at h
          · exact nameS_er h
          · split at h
            · split at h
              · cases h; exact .inl rfl
              · split at h
                · rename_i hv; cases h; exact ih.value _ _ _ _ (by omega) hv
                · cases h
            · split at h
              · cases h; exact .inl rfl
              · split at h
                · rename_i hv; cases h; exact ih.value _ _ _ _ (by omega) hv
                · cases h
            · split at h
              · rename_i hv; cases h; exact ih.whole _ _ _ _ _ (by omega) hv
              · split at h
                · cases h; exact .inr (.inr rfl)
                · split at h
                  · cases h
                  · cases h; exact .inr (.inl rfl)
            · cases h; exact .inr (.inl rfl)
    · unfold wholeF at h
      split at h
      · rename_i hv; cases h; exact ih.value _ _ _ _ (by omega) hv
      · rename_i hv
        have g := ((good n).value _ _ _ _ _ hv).lt
        exact ih.loop _ _ _ _ _ _ (by omega) h
    · have hsl := sk_length l
      unfold loopF at h
      split at h
      · rename_i o hw
        have hwl := wd_len hw
        split at h
        · cases h
        · split at h
          · cases h; exact .inl rfl
          · have hd : ((sk l).drop o.bytes.length).length = (sk l).length - o.bytes.length := List.length_drop
            split at h
            · rename_i hv; cases h; exact ih.whole _ _ _ _ _ (by omega) hv
            · rename_i hv
              have g := ((good n).whole _ _ _ _ _ _ hv).lt
              exact ih.loop _ _ _ _ _ _ (by omega) h
      · cases h
theorem parse_er {s : List UInt8} {k : Nat} {e : Int} (h : parseS s = .error (k, e)) : (e = 2 ∨ Er e) ∧ k ≤ s.length := by
  unfold parseS at h
  split at h
  · cases h; exact ⟨.inl rfl, by omega⟩
  · split at h
    · rename_i hv; cases h; exact ⟨.inr ((bads _).whole _ _ _ _ _ (by omega) hv), by omega⟩
    · split at h
      · cases h
      · cases h; exact ⟨.inr (.inr (.inl rfl)), by omega⟩
end Go.Proofs.YtoeglkkmjmhmiaaDoor
