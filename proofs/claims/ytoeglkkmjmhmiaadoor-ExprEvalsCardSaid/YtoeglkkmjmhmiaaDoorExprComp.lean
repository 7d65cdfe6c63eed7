/-
  Layer 4: texts put together of texts that were read: plain words.
-/
import Derived.Test.YtoeglkkmjmhmiaaDoorExprGrow
set_option linter.unusedVariables false
set_option linter.unusedSimpArgs false
namespace Go.Expr

theorem parse_ok {s : List UInt8} {x : Tr} (h : parseS s = .ok x) : s.length ≤ 200 ∧ ∃ r q, wholeF (3 * s.length + 2) 1 s 0 = .ok (x, r, q) ∧ sk r = [] := by
  unfold parseS at h
  split at h
  · cases h
  · rename_i hl
    split at h
    · cases h
    · rename_i hq
      split at h
      · rename_i hs
        cases h
        exact ⟨by omega, _, _, hq, hs⟩
      · cases h
theorem wd_nil {l : List UInt8} (h : sk l = []) : wd (sk l) = .none_ := by rw [h]; rfl
theorem loop_nil {n least p : Nat} {x : Tr} {r : List UInt8} (h : sk r = []) : loopF (n + 1) least x r p = .ok (x, [], p) := by
  unfold loopF
  rw [h]
  rfl
theorem top_ok {s r : List UInt8} {x : Tr} {q : Nat} (hl : s.length ≤ 200) (h : valueF (3 * s.length + 1) s 0 = .ok (x, r, q)) (hr : sk r = []) : parseS s = .ok x := by
  unfold parseS
  rw [if_neg (by omega)]
  have : wholeF (3 * s.length + 2) 1 s 0 = .ok (x, [], q) := by
    show wholeF (3 * s.length + 1 + 1) 1 s 0 = _
    unfold wholeF
    rw [h]
    exact loop_nil hr
  rw [this]
  rfl
theorem top_err {s : List UInt8} {e : List UInt8 × Int} (hl : s.length ≤ 200) (h : wholeF (3 * s.length + 2) 1 s 0 = .error e) : parseS s = .error (s.length - e.1.length, e.2) := by
  unfold parseS
  rw [if_neg (by omega), h]
theorem whole_err {m least p : Nat} {s : List UInt8} {e : List UInt8 × Int} (h : valueF m s p = .error e) : wholeF (m + 1) least s p = .error e := by
  unfold wholeF
  rw [h]
def sgB (neg : Bool) : UInt8 := if neg then 45 else 33
theorem val_sg {m p : Nat} {l u : List UInt8} {neg : Bool} (hs : sk l = sgB neg :: u) (hu : neg = false → u.head? ≠ some 61) :
    valueF (m + 1) l p = if 64 < p + 1 then .error (sgB neg :: u, 5) else match valueF m u (p + 1) with
      | .error e => .error e
      | .ok (x, r, q) => .ok (.sg neg x, r, q) := by
  cases neg with
  | true =>
    have hw : wd (sgB true :: u) = .bin .sub_ := by
      cases u with
      | nil => rfl
      | cons b u =>
        have : wd2 45 b = none := by unfold wd2; simp
        simp only [sgB, if_pos, wd, this]
        rfl
    conv => lhs; unfold valueF
    rw [hs]
    dsimp only
    rw [if_neg (show ¬ isDig (sgB true) = true by decide), if_neg (show ¬ isLet (sgB true) = true by decide), hw]
    rfl
  | false =>
    have hw : wd (sgB false :: u) = .not_ := by
      cases u with
      | nil => rfl
      | cons b u =>
        have hb : b ≠ 61 := fun e => hu rfl (by rw [e]; rfl)
        have : wd2 33 b = none := by unfold wd2; simp [hb]
        show (match wd2 33 b with
          | some o => Wd.bin o
          | none => wd1 33) = _
        rw [this]
        rfl
    conv => lhs; unfold valueF
    rw [hs]
    dsimp only
    rw [if_neg (show ¬ isDig (sgB false) = true by decide), if_neg (show ¬ isLet (sgB false) = true by decide), hw]
    rfl
theorem val_lp {m p : Nat} {l u : List UInt8} (hs : sk l = 40 :: u) :
    valueF (m + 1) l p = match wholeF m 1 u p with
      | .error e => .error e
      | .ok (x, r, q) => match sk r with
        | [] => .error ([], 41)
        | d :: r2 => if wd (d :: r2) = .rp then .ok (x, r2, q) else .error (d :: r2, 40) := by
  have hw : wd (40 :: u) = .lp := by
    cases u with
    | nil => rfl
    | cons b u =>
      have : wd2 40 b = none := by unfold wd2; simp
      simp only [wd, this]
      rfl
  conv => lhs; unfold valueF
  rw [hs]
  dsimp only
  rw [if_neg (show ¬ isDig 40 = true by decide), if_neg (show ¬ isLet 40 = true by decide), hw]
  rfl
theorem wd_rp {u : List UInt8} : wd (41 :: u) = .rp := by
  cases u with
  | nil => rfl
  | cons b u =>
    have : wd2 41 b = none := by unfold wd2; simp
    simp only [wd, this]
    rfl
/-- a text that was read, in parentheses -/
theorem paren {s : List UInt8} {x : Tr} (h : parseS s = .ok x) {m p : Nat} {l u t t2 : List UInt8} (hm : 3 * s.length + 2 ≤ m) (hs : sk l = 40 :: u) (hu : sk u = sk (s ++ t)) (ht : sk t = 41 :: t2) :
    (p + sizeT x ≤ 64 → valueF (m + 1) l p = .ok (x, t2, p + sizeT x)) ∧ (p ≤ 64 → 64 < p + sizeT x → ∃ e, valueF (m + 1) l p = .error (e, 5)) := by
  obtain ⟨hl, r, q, hw, hr⟩ := parse_ok h
  have k := (grow _).whole _ _ _ _ _ _ hw m u t p hm (.inr ⟨t2, ht⟩) hu
  rw [val_lp hs]
  refine ⟨fun hp => ?_, fun h64 hp => ?_⟩
  · obtain ⟨r', e, hs'⟩ := k.1 hp
    rw [sk_app_nil t hr, ht] at hs'
    rw [e]
    dsimp only
    rw [hs']
    dsimp only
    rw [if_pos wd_rp]
  · obtain ⟨e, he⟩ := k.2 h64 hp
    rw [he]
    exact ⟨_, rfl⟩
theorem signs_parse {s : List UInt8} {x : Tr} (h : parseS s = .ok x) (hl : s.length ≤ 190) (neg : Bool) :
    (sizeT x + 2 ≤ 64 → parseS (sgB neg :: sgB neg :: 40 :: (s ++ [41])) = .ok (.sg neg (.sg neg x))) ∧ (64 < sizeT x + 2 → ∃ e, parseS (sgB neg :: sgB neg :: 40 :: (s ++ [41])) = .error (e, 5)) := by
  have hlen : (sgB neg :: sgB neg :: 40 :: (s ++ [41])).length = s.length + 4 := by simp
  have h1 : sk (sgB neg :: sgB neg :: 40 :: (s ++ [41])) = sgB neg :: sgB neg :: 40 :: (s ++ [41]) := sk_cons (by cases neg <;> decide)
  have h2 : sk (sgB neg :: 40 :: (s ++ [41])) = sgB neg :: 40 :: (s ++ [41]) := sk_cons (by cases neg <;> decide)
  have h3 : sk (40 :: (s ++ [41])) = 40 :: (s ++ [41]) := sk_cons (by decide)
  have hf : 3 * (s.length + 4) + 1 = ((3 * s.length + 10) + 1 + 1) + 1 := by omega
  have k := paren h (p := 2) (m := 3 * s.length + 10) (by omega) h3 rfl (show sk [41] = 41 :: [] from rfl)
  have e1 := val_sg (m := (3 * s.length + 10) + 1 + 1) (p := 0) h1 (by intro hn; subst hn; simp [sgB])
  have e2 := val_sg (m := (3 * s.length + 10) + 1) (p := 1) h2 (by intro hn; simp)
  rw [if_neg (by omega)] at e1 e2
  refine ⟨fun hp => ?_, fun hp => ?_⟩
  · have e3 := k.1 (by omega)
    rw [e3] at e2
    rw [e2] at e1
    exact top_ok (q := 2 + sizeT x) (r := []) (by omega) (by rw [hlen, hf, e1]) rfl
  · obtain ⟨e, he⟩ := k.2 (by omega) (by omega)
    rw [he] at e2
    rw [e2] at e1
    refine ⟨_, top_err (e := (e, 5)) (by omega) ?_⟩
    rw [hlen, show 3 * (s.length + 4) + 2 = (3 * (s.length + 4) + 1) + 1 by omega]
    exact whole_err (by rw [hf, e1])
/-- the value of an operator's word -/
theorem wd_op (o : Bo) {u : List UInt8} (hu : u.head? = some 40 ∨ u.head? = some 32) : wd (o.bytes ++ u) = .bin o := by
  cases u with
  | nil => rcases hu with h | h <;> cases h
  | cons c u =>
    simp only [List.head?_cons, Option.some.injEq] at hu
    rcases hu with rfl | rfl <;> cases o <;> rfl
theorem sk_op (o : Bo) (u : List UInt8) : sk (o.bytes ++ u) = o.bytes ++ u := by cases o <;> exact sk_cons (by decide)
def putS (a b : List UInt8) (o : Bo) : List UInt8 := 40 :: (a ++ 41 :: (o.bytes ++ 40 :: 32 :: (b ++ [32, 41])))
theorem bo_len1 (o : Bo) : 1 ≤ o.bytes.length := by cases o <;> decide
theorem bo_rank1 (o : Bo) : 1 ≤ o.rank := by cases o <;> decide
theorem puts_parse {a b : List UInt8} {x y : Tr} (ha : parseS a = .ok x) (hb : parseS b = .ok y) (o : Bo) :
    ((putS a b o).length ≤ 200 → (sizeT x + sizeT y + 1 ≤ 64 → parseS (putS a b o) = .ok (.bn o x y)) ∧ (64 < sizeT x + sizeT y + 1 → sizeT x ≤ 64 → ∃ e, parseS (putS a b o) = .error (e, 5))) := by
  intro hl
  have hlen : (putS a b o).length = a.length + b.length + o.bytes.length + 6 := by simp [putS]; omega
  have hol := bo_len1 o
  have ho2 := bo_len o
  obtain ⟨F, hF⟩ : ∃ F, 3 * (putS a b o).length = F + 3 ∧ 3 * a.length + 2 ≤ F ∧ 3 * b.length + 8 ≤ F := ⟨3 * (putS a b o).length - 3, by omega, by omega, by omega⟩
  have h1 : sk (putS a b o) = 40 :: (a ++ 41 :: (o.bytes ++ 40 :: 32 :: (b ++ [32, 41]))) := sk_cons (by decide)
  have k1 := paren ha (p := 0) (m := F + 3) (by omega) h1 rfl (show sk (41 :: (o.bytes ++ 40 :: 32 :: (b ++ [32, 41]))) = 41 :: (o.bytes ++ 40 :: 32 :: (b ++ [32, 41])) from sk_cons (by decide))
  have hw := wd_op o (u := 40 :: 32 :: (b ++ [32, 41])) (.inl rfl)
  have hk := sk_op o (40 :: 32 :: (b ++ [32, 41]))
  have hdrop : (o.bytes ++ 40 :: 32 :: (b ++ [32, 41])).drop o.bytes.length = 40 :: 32 :: (b ++ [32, 41]) := List.drop_left
  have h2 : sk (40 :: 32 :: (b ++ [32, 41])) = 40 :: 32 :: (b ++ [32, 41]) := sk_cons (by decide)
  have k2 := paren hb (p := sizeT x + 1) (m := F) (by omega) h2 (t := [32, 41]) rfl (show sk [32, 41] = 41 :: [] from rfl)
  have hloop : loopF (F + 3 + 1) 1 x (o.bytes ++ 40 :: 32 :: (b ++ [32, 41])) (sizeT x) = if 64 < sizeT x + 1 then .error (o.bytes ++ 40 :: 32 :: (b ++ [32, 41]), 5) else match wholeF (F + 3) (o.rank + 1) (40 :: 32 :: (b ++ [32, 41])) (sizeT x + 1) with
      | .error e => .error e
      | .ok (y, r, p) => loopF (F + 3) 1 (.bn o x y) r p := by
    conv => lhs; unfold loopF
    rw [hk, hw]
    dsimp only
    rw [if_neg (by have := bo_rank1 o; omega), hdrop]
    rfl
  refine ⟨fun hp => ?_, fun hp hx => ?_⟩
  · have e1 := k1.1 (by omega)
    have e2 := k2.1 (by omega)
    have e2' : valueF (F + 2) (40 :: 32 :: (b ++ [32, 41])) (sizeT x + 1) = .ok (y, [], sizeT x + 1 + sizeT y) := by
      have := paren hb (p := sizeT x + 1) (m := F + 1) (by omega) h2 (t := [32, 41]) rfl (show sk [32, 41] = 41 :: [] from rfl)
      exact this.1 (by omega)
    have e3 : wholeF (F + 3) (o.rank + 1) (40 :: 32 :: (b ++ [32, 41])) (sizeT x + 1) = .ok (y, [], sizeT x + 1 + sizeT y) := by
      show wholeF (F + 2 + 1) _ _ _ = _
      unfold wholeF
      rw [e2']
      exact loop_nil rfl
    rw [if_neg (by omega), e3] at hloop
    dsimp only at hloop
    rw [show loopF (F + 3) 1 (.bn o x y) [] (sizeT x + 1 + sizeT y) = .ok (.bn o x y, [], sizeT x + 1 + sizeT y) from loop_nil (n := F + 2) rfl] at hloop
    unfold parseS
    rw [if_neg (by omega)]
    have : wholeF (3 * (putS a b o).length + 2) 1 (putS a b o) 0 = .ok (.bn o x y, [], sizeT x + 1 + sizeT y) := by
      rw [hF.1]
      show wholeF (F + 3 + 1 + 1) 1 (putS a b o) 0 = _
      unfold wholeF
      rw [e1, Nat.zero_add]
      exact hloop
    rw [this]
    rfl
  · have e1 := k1.1 (by omega)
    have hw2 : ∃ e, loopF (F + 3 + 1) 1 x (o.bytes ++ 40 :: 32 :: (b ++ [32, 41])) (sizeT x) = .error (e, 5) := by
      by_cases h65 : 64 < sizeT x + 1
      · rw [if_pos h65] at hloop; exact ⟨_, hloop⟩
      · rw [if_neg h65] at hloop
        have := paren hb (p := sizeT x + 1) (m := F + 1) (by omega) h2 (t := [32, 41]) rfl (show sk [32, 41] = 41 :: [] from rfl)
        obtain ⟨e, he⟩ := this.2 (by omega) (by omega)
        have e3 : wholeF (F + 3) (o.rank + 1) (40 :: 32 :: (b ++ [32, 41])) (sizeT x + 1) = .error (e, 5) := whole_err (m := F + 2) he
        rw [e3] at hloop
        exact ⟨_, hloop⟩
    obtain ⟨e, he⟩ := hw2
    refine ⟨_, top_err (e := (e, 5)) (by omega) ?_⟩
    rw [hF.1]
    show wholeF (F + 3 + 1 + 1) 1 (putS a b o) 0 = _
    unfold wholeF
    rw [e1, Nat.zero_add]
    exact he
end Go.Expr
