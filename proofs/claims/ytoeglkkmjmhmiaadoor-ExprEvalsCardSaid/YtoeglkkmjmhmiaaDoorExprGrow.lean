/-
  Layer 4: what was read is read in a larger text, too: plain words.
-/
import Derived.Test.YtoeglkkmjmhmiaaDoorExprPure
set_option linter.unusedVariables false
set_option linter.unusedSimpArgs false
namespace Go.Expr

theorem sk_app (l t : List UInt8) : sk (l ++ t) = if sk l = [] then sk t else sk l ++ t := by
  induction l with
  | nil => simp [sk]
  | cons c l ih =>
    by_cases hc : c = 32
    · simp only [List.cons_append, sk, if_pos hc]; exact ih
    · simp only [List.cons_append, sk, if_neg hc]; simp
theorem sk_app_nil {l : List UInt8} (t : List UInt8) (h : sk l = []) : sk (l ++ t) = sk t := by rw [sk_app, if_pos h]
theorem sk_app_cons {l r : List UInt8} {c : UInt8} (t : List UInt8) (h : sk l = c :: r) : sk (l ++ t) = c :: (r ++ t) := by rw [sk_app, if_neg (by rw [h]; simp), h]; rfl
/-- what may stand behind: nothing but blanks, or a closing one behind blanks -/
def Tl (t : List UInt8) : Prop := sk t = [] ∨ ∃ t', sk t = 41 :: t'
def Hd (t : List UInt8) : Prop := ∀ c, t.head? = some c → c = 32 ∨ c = 41
theorem Tl.hd {t : List UInt8} (h : Tl t) : Hd t := by
  intro c hc
  cases t with
  | nil => cases hc
  | cons d t =>
    simp only [List.head?_cons, Option.some.injEq] at hc
    subst hc
    by_cases h32 : d = 32
    · exact .inl h32
    · unfold Tl at h
      rw [sk, if_neg h32] at h
      rcases h with h | ⟨t', h⟩
      · cases h
      · cases h; exact .inr rfl
theorem runL_app {p : UInt8 → Bool} : ∀ {l t : List UInt8}, (∀ c, t.head? = some c → p c = false) → runL p (l ++ t) = runL p l
  | [], t, h => by
    cases t with
    | nil => rfl
    | cons c t => simp [runL, h c rfl]
  | c :: l, t, h => by
    simp only [List.cons_append, runL]
    rw [runL_app h]
theorem wd2_second {a b : UInt8} (h : b ≠ 124 ∧ b ≠ 38 ∧ b ≠ 61) : wd2 a b = none := by
  unfold wd2
  simp [h.1, h.2.1, h.2.2]
theorem wd_app {c : UInt8} {l t : List UInt8} (h : Hd t) : wd (c :: (l ++ t)) = wd (c :: l) := by
  cases l with
  | nil =>
    cases t with
    | nil => rfl
    | cons d t =>
      have h2 := h d rfl
      have : wd2 c d = none := wd2_second (by rcases h2 with rfl | rfl <;> decide)
      simp [wd, this]
  | cons d l =>
    simp only [List.cons_append, wd]
theorem Tl.wd {t : List UInt8} (h : Tl t) : wd (sk t) = .none_ ∨ Expr.wd (sk t) = .rp := by
  rcases h with h | ⟨t', h⟩
  · rw [h]; exact .inl rfl
  · rw [h]
    refine .inr ?_
    cases t' with
    | nil => rfl
    | cons d t' =>
      have : wd2 41 d = none := by unfold wd2; simp
      simp only [Expr.wd, this]
      rfl
structure Grow (n : Nat) : Prop where
  value : ∀ l p x r q, valueF n l p = .ok (x, r, q) → ∀ m l' t p', n ≤ m → Tl t → sk l' = sk (l ++ t) →
    (p' + sizeT x ≤ 64 → ∃ r', valueF m l' p' = .ok (x, r', p' + sizeT x) ∧ sk r' = sk (r ++ t)) ∧ (p' ≤ 64 → 64 < p' + sizeT x → ∃ e, valueF m l' p' = .error (e, 5))
  whole : ∀ least l p x r q, wholeF n least l p = .ok (x, r, q) → ∀ m l' t p', n ≤ m → Tl t → sk l' = sk (l ++ t) →
    (p' + sizeT x ≤ 64 → ∃ r', wholeF m least l' p' = .ok (x, r', p' + sizeT x) ∧ sk r' = sk (r ++ t)) ∧ (p' ≤ 64 → 64 < p' + sizeT x → ∃ e, wholeF m least l' p' = .error (e, 5))
  loop : ∀ least x0 l p x r q, loopF n least x0 l p = .ok (x, r, q) → ∀ m l' t p', n ≤ m → Tl t → sk l' = sk (l ++ t) →
    (p' + sizeT x ≤ 64 + sizeT x0 → ∃ r' q', loopF m least x0 l' p' = .ok (x, r', q') ∧ q' + sizeT x0 = p' + sizeT x ∧ sk r' = sk (r ++ t)) ∧ (p' ≤ 64 → 64 + sizeT x0 < p' + sizeT x → ∃ e, loopF m least x0 l' p' = .error (e, 5))
theorem hd_dig {t : List UInt8} (h : Hd t) : ∀ c, t.head? = some c → isDig c = false := fun c hc => by rcases h c hc with rfl | rfl <;> rfl
theorem hd_let {t : List UInt8} (h : Hd t) : ∀ c, t.head? = some c → isLet c = false := fun c hc => by rcases h c hc with rfl | rfl <;> rfl
theorem numberS_grow {l t r : List UInt8} {p q p' : Nat} {x : Tr} (ht : Hd t) (h : numberS l p = .ok (x, r, q)) :
    (p' + sizeT x ≤ 64 → ∃ r', numberS (l ++ t) p' = .ok (x, r', p' + sizeT x) ∧ sk r' = sk (r ++ t)) ∧ (p' ≤ 64 → 64 < p' + sizeT x → ∃ e, numberS (l ++ t) p' = .error (e, 5)) := by
  unfold numberS at h ⊢
  rw [runL_app (hd_dig ht)]
  have hl := runL_le isDig l
  split at h
  · cases h
  · rename_i h1
    split at h
    · cases h
    · cases h
      rw [if_neg h1, List.take_append_of_le_length hl, List.drop_append_of_le_length hl]
      simp only [sizeT]
      refine ⟨fun hp => ⟨_, if_neg (by omega), rfl⟩, fun _ hp => ⟨_, if_pos (by omega)⟩⟩
theorem nameS_grow {c : UInt8} {l t r : List UInt8} {p q p' : Nat} {x : Tr} (h0 : 1 ≤ l.length) (ht : Hd t) (h : nameS c l p = .ok (x, r, q)) :
    (p' + sizeT x ≤ 64 → ∃ r', nameS c (l ++ t) p' = .ok (x, r', p' + sizeT x) ∧ sk r' = sk (r ++ t)) ∧ (p' ≤ 64 → 64 < p' + sizeT x → ∃ e, nameS c (l ++ t) p' = .error (e, 5)) := by
  unfold nameS at h ⊢
  rw [runL_app (hd_let ht)]
  split at h
  · cases h
  · rename_i h1
    split at h
    · cases h
    · cases h
      rw [if_neg h1, List.drop_append_of_le_length h0]
      simp only [sizeT]
      refine ⟨fun hp => ⟨_, if_neg (by omega), rfl⟩, fun _ hp => ⟨_, if_pos (by omega)⟩⟩
theorem grow : ∀ n, Grow n
  | 0 => ⟨fun l p x r q h => by (simp [valueF] at h), fun least l p x r q h => by (simp [wholeF] at h), fun least x0 l p x r q h => by (simp [loopF] at h)⟩
  | n + 1 => by
    have ih := grow n
    refine ⟨fun l p x r q h m l' t p' hm ht hl => ?_, fun least l p x r q h m l' t p' hm ht hl => ?_, fun least x0 l p x r q h m l' t p' hm ht hl => ?_⟩
    · obtain ⟨m, rfl⟩ : ∃ k, m = k + 1 := ⟨m - 1, by omega⟩
      unfold valueF at h ⊢
      split at h
      · cases h
      · rename_i c l1 hsk
        rw [sk_app_cons t hsk] at hl
        rw [hl]
        dsimp only
        split at h
        · rename_i hd
          rw [if_pos hd]
          exact numberS_grow (l := c :: l1) ht.hd h
        · rename_i hd
          rw [if_neg hd]
          split at h
          · rename_i hlt
            rw [if_pos hlt]
            exact nameS_grow (l := c :: l1) (by simp) ht.hd h
          · rename_i hlt
            rw [if_neg hlt, wd_app ht.hd]
            split at h
            · rename_i hw
              try rw [hw]
              try dsimp only
              split at h
              · cases h
              · split at h
                · cases h
                · rename_i x' r' q' hv
                  cases h
                  have k := ih.value _ _ _ _ _ hv m (l1 ++ t) t (p' + 1) (by omega) ht rfl
                  simp only [sizeT]
                  refine ⟨fun hp => ?_, fun h64 hp => ?_⟩
                  · obtain ⟨r2, e2, s2⟩ := k.1 (by omega)
                    rw [if_neg (by omega), e2]
                    exact ⟨r2, by dsimp only; congr 3; omega, s2⟩
                  · by_cases h65 : 64 < p' + 1
                    · rw [if_pos h65]; exact ⟨_, rfl⟩
                    · obtain ⟨e, he⟩ := k.2 (by omega) (by omega)
                      rw [if_neg h65, he]; exact ⟨_, rfl⟩
            · rename_i hw
              try rw [hw]
              try dsimp only
              split at h
              · cases h
              · split at h
                · cases h
                · rename_i x' r' q' hv
                  cases h
                  have k := ih.value _ _ _ _ _ hv m (l1 ++ t) t (p' + 1) (by omega) ht rfl
                  simp only [sizeT]
                  refine ⟨fun hp => ?_, fun h64 hp => ?_⟩
                  · obtain ⟨r2, e2, s2⟩ := k.1 (by omega)
                    rw [if_neg (by omega), e2]
                    exact ⟨r2, by dsimp only; congr 3; omega, s2⟩
                  · by_cases h65 : 64 < p' + 1
                    · rw [if_pos h65]; exact ⟨_, rfl⟩
                    · obtain ⟨e, he⟩ := k.2 (by omega) (by omega)
                      rw [if_neg h65, he]; exact ⟨_, rfl⟩
            · rename_i hw
              try rw [hw]
              try dsimp only
              split at h
              · cases h
              · rename_i x' r' q' hv
                split at h
                · cases h
                · rename_i d r2 hr2
                  split at h
                  · rename_i hrp
                    cases h
                    have k := ih.whole _ _ _ _ _ _ hv m (l1 ++ t) t p' (by omega) ht rfl
                    refine ⟨fun hp => ?_, fun h64 hp => ?_⟩
                    · obtain ⟨r3, e3, s3⟩ := k.1 hp
                      rw [sk_app_cons t hr2] at s3
                      rw [e3]
                      dsimp only
                      rw [s3]
                      dsimp only
                      rw [wd_app ht.hd, if_pos hrp]
                      exact ⟨_, rfl, rfl⟩
                    · obtain ⟨e, he⟩ := k.2 h64 hp
                      rw [he]; exact ⟨_, rfl⟩
                  · cases h
            · cases h
    · obtain ⟨m, rfl⟩ : ∃ k, m = k + 1 := ⟨m - 1, by omega⟩
      unfold wholeF at h ⊢
      split at h
      · cases h
      · rename_i x1 r1 q1 hv
        have k1 := ih.value _ _ _ _ _ hv m l' t p' (by omega) ht hl
        have hsz := ((good n).loop _ _ _ _ _ _ _ h).2.2.2
        refine ⟨fun hp => ?_, fun h64 hp => ?_⟩
        · obtain ⟨r2, e2, s2⟩ := k1.1 (by omega)
          have k2 := ih.loop _ _ _ _ _ _ _ h m r2 t (p' + sizeT x1) (by omega) ht s2
          obtain ⟨r3, q3, e3, f3, s3⟩ := k2.1 (by omega)
          rw [e2]
          dsimp only
          rw [e3]
          exact ⟨r3, by congr 3; omega, s3⟩
        · by_cases h65 : 64 < p' + sizeT x1
          · obtain ⟨e, he⟩ := k1.2 h64 h65
            rw [he]; exact ⟨_, rfl⟩
          · obtain ⟨r2, e2, s2⟩ := k1.1 (by omega)
            have k2 := ih.loop _ _ _ _ _ _ _ h m r2 t (p' + sizeT x1) (by omega) ht s2
            obtain ⟨e, he⟩ := k2.2 (by omega) (by omega)
            rw [e2]
            dsimp only
            exact ⟨e, he⟩
    · obtain ⟨m, rfl⟩ : ∃ k, m = k + 1 := ⟨m - 1, by omega⟩
      unfold loopF at h ⊢
      cases hsk : sk l with
      | nil =>
        rw [hsk] at h
        have h : (Except.ok (x0, [], p) : Res) = .ok (x, r, q) := h
        cases h
        rw [sk_app_nil t hsk] at hl
        rw [hl]
        have hres : ∀ p', (match wd (sk t) with
            | .bin o => if o.rank < least then (.ok (x0, sk t, p') : Res) else if 64 < p' + 1 then .error (sk t, 5) else match wholeF m (o.rank + 1) ((sk t).drop o.bytes.length) (p' + 1) with
              | .error e => .error e
              | .ok (y, r, p) => loopF m least (.bn o x0 y) r p
            | _ => .ok (x0, sk t, p')) = .ok (x0, sk t, p') := fun p' => by
          rcases ht.wd with h | h <;> rw [h]
        refine ⟨fun hp => ⟨sk t, p', hres p', by omega, by rw [sk_sk]; rfl⟩, fun h64 hp => absurd hp (by omega)⟩
      | cons c l1 =>
        rw [hsk] at h
        have hl2 := hl
        rw [sk_app_cons t hsk] at hl
        rw [hl, wd_app ht.hd]
        have hc := sk_head hsk
        have hsk2 : ∀ t, sk (c :: (l1 ++ t)) = c :: (l1 ++ t) := fun t => sk_cons hc
        have stop : ∀ {x r q}, (Except.ok (x0, c :: l1, p) : Res) = .ok (x, r, q) → (p' + sizeT x ≤ 64 + sizeT x0 → ∃ r' q', (Except.ok (x0, c :: (l1 ++ t), p') : Res) = .ok (x, r', q') ∧ q' + sizeT x0 = p' + sizeT x ∧ sk r' = sk (r ++ t)) ∧ (p' ≤ 64 → 64 + sizeT x0 < p' + sizeT x → ∃ e, (Except.ok (x0, c :: (l1 ++ t), p') : Res) = .error (e, 5)) := fun h => by
          cases h
          exact ⟨fun hp => ⟨_, _, rfl, by omega, rfl⟩, fun h64 hp => absurd hp (by omega)⟩
        cases hw : wd (c :: l1) with
        | bin o =>
          rw [hw] at h
          dsimp only at h ⊢
          have hwl := wd_len hw
          by_cases hr : o.rank < least
          · rw [if_pos hr] at h ⊢
            exact stop h
          · rw [if_neg hr] at h ⊢
            split at h
            · cases h
            · split at h
              · cases h
              · rename_i y r1 q1 hv
                have hdrop : (c :: (l1 ++ t)).drop o.bytes.length = (c :: l1).drop o.bytes.length ++ t := by
                  rw [← List.cons_append, List.drop_append_of_le_length hwl.2.1]
                rw [hdrop]
                have k1 := ih.whole _ _ _ _ _ _ hv m ((c :: l1).drop o.bytes.length ++ t) t (p' + 1) (by omega) ht rfl
                have hsz := ((good n).loop _ _ _ _ _ _ _ h).2.2.2
                simp only [sizeT] at hsz
                refine ⟨fun hp => ?_, fun h64 hp => ?_⟩
                · rw [if_neg (by omega)]
                  obtain ⟨r2, e2, s2⟩ := k1.1 (by omega)
                  have k2 := ih.loop _ _ _ _ _ _ _ h m r2 t (p' + 1 + sizeT y) (by omega) ht s2
                  simp only [sizeT] at k2
                  obtain ⟨r3, q3, e3, f3, s3⟩ := k2.1 (by omega)
                  rw [e2]
                  dsimp only
                  rw [e3]
                  exact ⟨r3, q3, rfl, by omega, s3⟩
                · by_cases h65 : 64 < p' + 1
                  · rw [if_pos h65]; exact ⟨_, rfl⟩
                  · rw [if_neg h65]
                    by_cases h66 : 64 < p' + 1 + sizeT y
                    · obtain ⟨e, he⟩ := k1.2 (by omega) h66
                      rw [he]; exact ⟨_, rfl⟩
                    · obtain ⟨r2, e2, s2⟩ := k1.1 (by omega)
                      have k2 := ih.loop _ _ _ _ _ _ _ h m r2 t (p' + 1 + sizeT y) (by omega) ht s2
                      simp only [sizeT] at k2
                      obtain ⟨e, he⟩ := k2.2 (by omega) (by omega)
                      rw [e2]
                      dsimp only
                      exact ⟨e, he⟩
        | none_ => rw [hw] at h; exact stop h
        | not_ => rw [hw] at h; exact stop h
        | lp => rw [hw] at h; exact stop h
        | rp => rw [hw] at h; exact stop h
end Go.Expr
