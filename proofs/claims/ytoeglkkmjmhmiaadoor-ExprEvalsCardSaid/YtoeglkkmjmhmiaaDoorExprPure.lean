/-
  Layer 4: expressions in plain words: trees, how a text is read, values, texts.
-/
import Derived.Test.YtoeglkkmjmhmiaaDoorSlFor
import Derived.Lib.ItoaNum
set_option linter.unusedVariables false
set_option linter.unusedSimpArgs false
namespace Go.Expr

inductive Bo
  | or_ | and_ | eq_ | ne_ | le_ | ge_ | lt_ | gt_ | add_ | sub_ | mul_ | div_ | rem_
deriving DecidableEq
inductive Wd
  | none_ | bin (o : Bo) | not_ | lp | rp
deriving DecidableEq
inductive Tr
  | num (n : Nat)
  | nm (c : UInt8)
  | sg (neg : Bool) (x : Tr)
  | bn (o : Bo) (x y : Tr)
def Bo.rank : Bo → Nat
  | .or_ => 1 | .and_ => 2 | .eq_ => 3 | .ne_ => 3 | .le_ => 3 | .ge_ => 3 | .lt_ => 3 | .gt_ => 3 | .add_ => 4 | .sub_ => 4 | .mul_ => 5 | .div_ => 5 | .rem_ => 5
def Bo.bytes : Bo → List UInt8
  | .or_ => [124, 124] | .and_ => [38, 38] | .eq_ => [61, 61] | .ne_ => [33, 61] | .le_ => [60, 61] | .ge_ => [62, 61] | .lt_ => [60] | .gt_ => [62] | .add_ => [43] | .sub_ => [45] | .mul_ => [42] | .div_ => [47] | .rem_ => [37]
def Wd.bytes : Wd → List UInt8
  | .none_ => [] | .bin o => o.bytes | .not_ => [33] | .lp => [40] | .rp => [41]
def wd2 (a b : UInt8) : Option Bo :=
  if a = 124 ∧ b = 124 then some .or_ else if a = 38 ∧ b = 38 then some .and_ else if a = 61 ∧ b = 61 then some .eq_ else if a = 33 ∧ b = 61 then some .ne_ else if a = 60 ∧ b = 61 then some .le_ else if a = 62 ∧ b = 61 then some .ge_ else none
def wd1 (a : UInt8) : Wd :=
  if a = 60 then .bin .lt_ else if a = 62 then .bin .gt_ else if a = 43 then .bin .add_ else if a = 45 then .bin .sub_ else if a = 42 then .bin .mul_ else if a = 47 then .bin .div_ else if a = 37 then .bin .rem_ else if a = 33 then .not_ else if a = 40 then .lp else if a = 41 then .rp else .none_
def wd : List UInt8 → Wd
  | [] => .none_
  | [a] => wd1 a
  | a :: b :: _ => match wd2 a b with
    | some o => .bin o
    | none => wd1 a
def isDig (c : UInt8) : Bool := decide (48 ≤ c.toNat ∧ c.toNat ≤ 57)
def isLet (c : UInt8) : Bool := decide ((97 ≤ c.toNat ∧ c.toNat ≤ 122) ∨ (65 ≤ c.toNat ∧ c.toNat ≤ 90))
def sk : List UInt8 → List UInt8
  | [] => []
  | c :: l => if c = 32 then sk l else c :: l
/-- a text could not be read: what is left, and why -/
abbrev Res := Except (List UInt8 × Int) (Tr × List UInt8 × Nat)
def decN (l : List UInt8) : Nat := l.foldl (fun n c => 10 * n + (c.toNat - 48)) 0
def runL (p : UInt8 → Bool) : List UInt8 → Nat
  | [] => 0
  | c :: l => if p c then runL p l + 1 else 0
def numberS (l : List UInt8) (parts : Nat) : Res :=
  if 18 < runL isDig l then .error (l, 40) else if 64 < parts + 1 then .error (l, 5) else .ok (.num (decN (l.take (runL isDig l))), l.drop (runL isDig l), parts + 1)
def nameS (c : UInt8) (l : List UInt8) (parts : Nat) : Res :=
  if 1 < runL isLet l ∨ (c ≠ 110 ∧ c ≠ 116 ∧ c ≠ 118) then .error (l, 40) else if 64 < parts + 1 then .error (l, 5) else .ok (.nm c, l.drop 1, parts + 1)
mutual
def valueF : Nat → List UInt8 → Nat → Res
  | 0, l, _ => .error (l, 0)
  | n + 1, l0, parts => match sk l0 with
    | [] => .error ([], 41)
    | c :: l => if isDig c then numberS (c :: l) parts else if isLet c then nameS c (c :: l) parts else match wd (c :: l) with
      | .bin .sub_ => if 64 < parts + 1 then .error (c :: l, 5) else match valueF n l (parts + 1) with
        | .error e => .error e
        | .ok (x, r, p) => .ok (.sg true x, r, p)
      | .not_ => if 64 < parts + 1 then .error (c :: l, 5) else match valueF n l (parts + 1) with
        | .error e => .error e
        | .ok (x, r, p) => .ok (.sg false x, r, p)
      | .lp => match wholeF n 1 l parts with
        | .error e => .error e
        | .ok (x, r, p) => match sk r with
          | [] => .error ([], 41)
          | d :: r2 => if wd (d :: r2) = .rp then .ok (x, r2, p) else .error (d :: r2, 40)
      | _ => .error (c :: l, 40)
def wholeF : Nat → Nat → List UInt8 → Nat → Res
  | 0, _, l, _ => .error (l, 0)
  | n + 1, least, l, parts => match valueF n l parts with
    | .error e => .error e
    | .ok (x, r, p) => loopF n least x r p
def loopF : Nat → Nat → Tr → List UInt8 → Nat → Res
  | 0, _, _, l, _ => .error (l, 0)
  | n + 1, least, x, l, parts => match wd (sk l) with
    | .bin o => if o.rank < least then .ok (x, sk l, parts) else if 64 < parts + 1 then .error (sk l, 5) else match wholeF n (o.rank + 1) ((sk l).drop o.bytes.length) (parts + 1) with
      | .error e => .error e
      | .ok (y, r, p) => loopF n least (.bn o x y) r p
    | _ => .ok (x, sk l, parts)
end
def parseS (s : List UInt8) : Except (Nat × Int) Tr :=
  if 200 < s.length then .error (0, 2) else match wholeF (3 * s.length + 2) 1 s 0 with
  | .error (r, e) => .error (s.length - r.length, e)
  | .ok (x, r, _) => if sk r = [] then .ok x else .error (s.length - (sk r).length, 40)
def bit (p : Prop) [Decidable p] : Int := if p then 1 else 0
def twoI (o : Bo) (a b : Int) : Int := match o with
  | .or_ => bit (a ≠ 0 ∨ b ≠ 0)
  | .and_ => bit (a ≠ 0 ∧ b ≠ 0)
  | .eq_ => bit (a = b)
  | .ne_ => bit (a ≠ b)
  | .le_ => bit (a ≤ b)
  | .ge_ => bit (b ≤ a)
  | .lt_ => bit (a < b)
  | .gt_ => bit (b < a)
  | .add_ => IntKind.i64.wrap (a + b)
  | .sub_ => IntKind.i64.wrap (a - b)
  | .mul_ => IntKind.i64.wrap (a * b)
  | .div_ => if b = 0 then 0 else IntKind.i64.wrap (a.tdiv b)
  | .rem_ => if b = 0 then 0 else a.tmod b
def evalI (n t v : Int) : Tr → Int
  | .num k => k
  | .nm c => if c = 110 then n else if c = 116 then t else v
  | .sg true x => IntKind.i64.wrap (0 - evalI n t v x)
  | .sg false x => bit (evalI n t v x = 0)
  | .bn o x y => twoI o (evalI n t v x) (evalI n t v y)
def sizeT : Tr → Nat
  | .num _ => 1
  | .nm _ => 1
  | .sg _ x => sizeT x + 1
  | .bn _ x y => sizeT x + sizeT y + 1
def txt : Tr → List UInt8
  | .num n => Go.Lib.itoa n
  | .nm c => [c]
  | .sg true x => 45 :: txt x
  | .sg false x => 33 :: txt x
  | .bn o x y => 40 :: (txt x ++ 32 :: (o.bytes ++ 32 :: (txt y ++ [41])))

/-! ### What a reading leaves -/
theorem sk_suffix : ∀ l : List UInt8, sk l <:+ l
  | [] => List.suffix_refl _
  | c :: l => by
    unfold sk
    split
    · exact (sk_suffix l).trans (List.suffix_cons _ _)
    · exact List.suffix_refl _
theorem sk_head : ∀ {l r : List UInt8} {c : UInt8}, sk l = c :: r → c ≠ 32
  | [], _, _, h => by cases h
  | d :: l, r, c, h => by
    unfold sk at h
    split at h
    · exact sk_head h
    · cases h; assumption
theorem sk_sk (l : List UInt8) : sk (sk l) = sk l := by
  cases h : sk l with
  | nil => rfl
  | cons c r => unfold sk; rw [if_neg (sk_head h)]
theorem sk_cons {c : UInt8} {l : List UInt8} (h : c ≠ 32) : sk (c :: l) = c :: l := by unfold sk; rw [if_neg h]
theorem runL_le (p : UInt8 → Bool) : ∀ l, runL p l ≤ l.length
  | [] => Nat.le_refl _
  | c :: l => by
    unfold runL
    split
    · have := runL_le p l; simp only [List.length_cons]; omega
    · exact Nat.zero_le _
/-- what is read of a text: some of it, and as many parts as the tree has -/
structure Ok (l : List UInt8) (p : Nat) (x : Tr) (r : List UInt8) (q : Nat) : Prop where
  suf : r <:+ l
  lt : r.length < l.length
  size : sizeT x + p = q
  most : q ≤ 64
  pos : 1 ≤ sizeT x
theorem drop_suf {l : List UInt8} (k : Nat) : l.drop k <:+ l := List.drop_suffix _ _
theorem wd1_len {a : UInt8} {o : Bo} (h : wd1 a = .bin o) : o.bytes.length = 1 := by
  unfold wd1 at h
  repeat' split at h
  all_goals first | (cases h; rfl) | cases h
theorem wd2_len {a b : UInt8} {o : Bo} (h : wd2 a b = some o) : o.bytes.length = 2 := by
  unfold wd2 at h
  repeat' split at h
  all_goals first | (cases h; rfl) | cases h
theorem wd_len {l : List UInt8} {o : Bo} (h : wd l = .bin o) : 1 ≤ o.bytes.length ∧ o.bytes.length ≤ l.length ∧ o.bytes.length ≤ 2 := by
  match l, h with
  | [a], h =>
    have := wd1_len (a := a) h
    simp only [List.length_cons, List.length_nil]; omega
  | a :: b :: l, h =>
    simp only [wd] at h
    cases h2 : wd2 a b with
    | some o' =>
      rw [h2] at h
      cases h
      have := wd2_len h2
      simp only [List.length_cons]; omega
    | none =>
      rw [h2] at h
      have := wd1_len h
      simp only [List.length_cons]; omega
theorem numberS_ok {l r : List UInt8} {p q : Nat} {x : Tr} (h : numberS l p = .ok (x, r, q)) (h0 : 1 ≤ runL isDig l) : Ok l p x r q := by
  unfold numberS at h
  split at h
  · cases h
  · split at h
    · cases h
    · cases h
      have := runL_le isDig l
      exact ⟨drop_suf _, by rw [List.length_drop]; omega, by simp [sizeT]; omega, by omega, by simp [sizeT]⟩
theorem nameS_ok {c : UInt8} {l r : List UInt8} {p q : Nat} {x : Tr} (h : nameS c l p = .ok (x, r, q)) (h0 : 1 ≤ l.length) : Ok l p x r q := by
  unfold nameS at h
  split at h
  · cases h
  · split at h
    · cases h
    · cases h
      exact ⟨drop_suf _, by rw [List.length_drop]; omega, by simp [sizeT]; omega, by omega, by simp [sizeT]⟩
structure Good (n : Nat) : Prop where
  value : ∀ l p x r q, valueF n l p = .ok (x, r, q) → Ok l p x r q
  whole : ∀ least l p x r q, wholeF n least l p = .ok (x, r, q) → Ok l p x r q
  loop : ∀ least x0 l p x r q, loopF n least x0 l p = .ok (x, r, q) → r <:+ l ∧ sizeT x + p = q + sizeT x0 ∧ (p ≤ 64 → q ≤ 64) ∧ sizeT x0 ≤ sizeT x
theorem good : ∀ n, Good n
  | 0 => ⟨fun l p x r q h => by (simp [valueF] at h), fun least l p x r q h => by (simp [wholeF] at h), fun least x0 l p x r q h => by (simp [loopF] at h)⟩
  | n + 1 => by
    have ih := good n
    refine ⟨fun l p x r q h => ?_, fun least l p x r q h => ?_, fun least x0 l p x r q h => ?_⟩
    · unfold valueF at h
      have hs := sk_suffix l
      split at h
      · cases h
      · rename_i c l1 hsk
        rw [hsk] at hs
        have hsl := hs.length_le
        simp only [List.length_cons] at hsl
        have up : ∀ {x r q}, Ok (c :: l1) p x r q → Ok l p x r q := fun ⟨a, b, e, f, g⟩ => ⟨a.trans hs, by simp only [List.length_cons] at b; omega, e, f, g⟩
        split at h
        · rename_i hd
          exact up (numberS_ok h (by unfold runL; rw [if_pos hd]; omega))
        · split at h
          · exact up (nameS_ok h (by simp))
          · split at h
            · split at h
              · cases h
              · split at h
                · cases h
                · rename_i x' r' p' hv
                  cases h
                  have k := ih.value _ _ _ _ _ hv
                  exact up ⟨k.suf.trans (List.suffix_cons _ _), by have := k.lt; simp only [List.length_cons]; omega, by have := k.size; simp only [sizeT]; omega, k.most, by simp [sizeT]⟩
            · split at h
              · cases h
              · split at h
                · cases h
                · rename_i x' r' p' hv
                  cases h
                  have k := ih.value _ _ _ _ _ hv
                  exact up ⟨k.suf.trans (List.suffix_cons _ _), by have := k.lt; simp only [List.length_cons]; omega, by have := k.size; simp only [sizeT]; omega, k.most, by simp [sizeT]⟩
            · split at h
              · cases h
              · rename_i x' r' p' hv
                split at h
                · cases h
                · rename_i d r2 hr2
                  split at h
                  · cases h
                    have k := ih.whole _ _ _ _ _ _ hv
                    have k2 := sk_suffix r'
                    rw [hr2] at k2
                    have k3 := k2.length_le
                    simp only [List.length_cons] at k3
                    exact up ⟨((List.suffix_cons _ _).trans k2).trans (k.suf.trans (List.suffix_cons _ _)), by have := k.lt; simp only [List.length_cons]; omega, k.size, k.most, k.pos⟩
                  · cases h
            · cases h
    · unfold wholeF at h
      split at h
      · cases h
      · rename_i x' r' p' hv
        have k := ih.value _ _ _ _ _ hv
        obtain ⟨a, b, c, d⟩ := ih.loop _ _ _ _ _ _ _ h
        exact ⟨a.trans k.suf, by have := a.length_le; have := k.lt; omega, by have := k.size; omega, c k.most, by have := k.pos; omega⟩
    · unfold loopF at h
      have hs := sk_suffix l
      split at h
      · rename_i o hw
        split at h
        · cases h
          exact ⟨hs, by omega, fun h => h, Nat.le_refl _⟩
        · split at h
          · cases h
          · split at h
            · cases h
            · rename_i y r' p' hv
              have k := ih.whole _ _ _ _ _ _ hv
              obtain ⟨a, b, c, d⟩ := ih.loop _ _ _ _ _ _ _ h
              have ks := k.size
              simp only [sizeT] at b d
              exact ⟨a.trans (k.suf.trans ((drop_suf _).trans hs)), by omega, fun _ => c k.most, by omega⟩
      · cases h
        exact ⟨hs, by omega, fun h => h, Nat.le_refl _⟩
theorem bo_len (o : Bo) : o.bytes.length ≤ 2 := by cases o <;> decide
end Go.Expr
