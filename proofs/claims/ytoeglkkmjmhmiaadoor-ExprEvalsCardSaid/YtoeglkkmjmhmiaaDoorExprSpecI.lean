/-
  Layer 4: values and what stands between them, all roads together; Parse, Text, Size, Eval.
-/
import Derived.Test.YtoeglkkmjmhmiaaDoorExprSpecH
set_option linter.unusedVariables false
set_option linter.unusedSimpArgs false
set_option maxRecDepth 4000
namespace Go.Proofs.YtoeglkkmjmhmiaaDoor
open Go.Sl Go.RowKit Go.Expr Go.Shelf

theorem ex_number {w0 : World} {A : List HProp} {r p : Nat} {S : ByteArray} {l : List UInt8} (ht : TabW w0) (hl : l <:+ S.data.toList) (hS : S.size ≤ 4611686018427387903) (h0 : 1 ≤ runL isDig l) (hp : p ≤ 64) :
    Fun Tryd.prog w0 37 [.pointer (some ⟨r, 0, none⟩)] (src r S l p :: A) (AnyR w0 r S A (numberS l p)) := by
  unfold numberS
  by_cases h1 : 18 < runL isDig l
  · rw [if_pos h1]; exact ex_number_word hl hS h1
  · rw [if_neg h1]
    by_cases h2 : 64 < p + 1
    · rw [if_pos h2]; exact ex_number_many hl hS h0 (by omega) (by omega)
    · rw [if_neg h2]; exact ex_number_ok ht hl hS h0 (by omega) (by omega)
theorem ex_name {w0 : World} {A : List HProp} {r p : Nat} {S : ByteArray} {l : List UInt8} {c : UInt8} (hl : l <:+ S.data.toList) (hS : S.size ≤ 4611686018427387903) (h0 : 1 ≤ l.length) (hp : p ≤ 64) :
    Fun Tryd.prog w0 38 [.pointer (some ⟨r, 0, none⟩), u8v c] (src r S l p :: A) (AnyR w0 r S A (nameS c l p)) := by
  unfold nameS
  by_cases hc : Nm c
  · have hn : ¬ (c ≠ 110 ∧ c ≠ 116 ∧ c ≠ 118) := fun ⟨a, b, d⟩ => by rcases hc with h | h | h <;> contradiction
    by_cases h1 : 1 < runL isLet l
    · rw [if_pos (.inl h1)]; exact ex_name_long hl hS h1 hc
    · rw [if_neg (fun h => h.elim h1 hn)]
      by_cases h2 : 64 < p + 1
      · rw [if_pos h2]; exact ex_name_many hl hS h1 hc (by omega)
      · rw [if_neg h2]; exact ex_name_ok hl hS h1 h0 hc (by omega)
  · rw [if_pos (.inr ⟨fun e => hc (.inl e), fun e => hc (.inr (.inl e)), fun e => hc (.inr (.inr e))⟩)]
    exact ex_name_other hl hS hc
structure All (w0 : World) (r : Nat) (S : ByteArray) (n : Nat) : Prop where
  value : ∀ l p A, l <:+ S.data.toList → p ≤ 64 → 3 * l.length + 1 ≤ n → Fun Tryd.prog w0 29 [.pointer (some ⟨r, 0, none⟩)] (src r S l p :: A) (AnyR w0 r S A (valueF n l p))
  whole : ∀ least l p A, l <:+ S.data.toList → p ≤ 64 → 3 * l.length + 2 ≤ n → 1 ≤ least → least ≤ 6 → Fun Tryd.prog w0 20 [.pointer (some ⟨r, 0, none⟩), .int .i64 ((least : Nat) : Int)] (src r S l p :: A) (AnyR w0 r S A (wholeF n least l p))
theorem bool_f {b : Bool} (h : ¬ b = true) : b = false := by cases b <;> simp_all
theorem ex_all {w0 : World} {r : Nat} {S : ByteArray} (ht : TabW w0) (hS : S.size ≤ 4611686018427387903) : ∀ n, (∀ m, m < n → All w0 r S m) → All w0 r S n
  | 0, _ => ⟨fun l p A _ _ h => absurd h (by omega), fun least l p A _ _ h => absurd h (by omega)⟩
  | n + 1, ih => by
    have i1 := ih n (by omega)
    refine ⟨fun l p A hl hp hn => ?_, fun least l p A hl hp hn h1 h5 => ?_⟩
    · have hs2 := (sk_suffix l).trans hl
      have hsl := sk_length l
      unfold valueF
      cases hsk : sk l with
      | nil => exact ex_value_none hl hS hsk
      | cons c l1 =>
        rw [hsk] at hs2 hsl
        simp only [List.length_cons] at hsl
        have hl1 : l1 <:+ S.data.toList := (List.suffix_cons c l1).trans hs2
        dsimp only
        by_cases hd : isDig c = true
        · rw [if_pos hd]
          have hf := ex_number (A := A) (p := p) (r := r) ht hs2 hS (by unfold runL; rw [if_pos hd]; omega) hp
          cases hq : numberS (c :: l1) p with
          | error e => rw [hq] at hf; exact ex_value_dig_bad hl hS hsk hs2 hd hf
          | ok x => rw [hq] at hf; exact ex_value_dig_ok hl hS hsk hs2 hd hf
        · rw [if_neg hd]
          have hd' := bool_f hd
          by_cases hlt : isLet c = true
          · rw [if_pos hlt]
            have hf := ex_name (w0 := w0) (A := A) (p := p) (r := r) (c := c) hs2 hS (by simp) hp
            cases hq : nameS c (c :: l1) p with
            | error e => rw [hq] at hf; exact ex_value_let_bad hl hS hsk hs2 hd' hlt hf
            | ok x => rw [hq] at hf; exact ex_value_let_ok hl hS hsk hs2 hd' hlt hf
          · rw [if_neg hlt]
            have hlt' := bool_f hlt
            have sg : ∀ neg : Bool, wd (c :: l1) = (if neg then .bin .sub_ else .not_) → Fun Tryd.prog w0 29 [.pointer (some ⟨r, 0, none⟩)] (src r S l p :: A) (AnyR w0 r S A (if 64 < p + 1 then .error (c :: l1, 5) else match valueF n l1 (p + 1) with
                | .error e => .error e
                | .ok (x, r, q) => .ok (.sg neg x, r, q))) := fun neg hw => by
              by_cases h64 : 64 < p + 1
              · rw [if_pos h64]; exact ex_value_sg_many hl hS hsk hs2 hd' hlt' hw (by omega)
              · rw [if_neg h64]
                have hf := fun A => i1.value l1 (p + 1) A hl1 (by omega) (by omega)
                cases hq : valueF n l1 (p + 1) with
                | error e => rw [hq] at hf; exact ex_value_sg_bad hl hS hsk hs2 hd' hlt' hw (by omega) hf
                | ok x =>
                  obtain ⟨x, l2, q⟩ := x
                  rw [hq] at hf
                  have g := (good n).value _ _ _ _ _ hq
                  have g1 := g.size
                  have g2 := g.most
                  have g3 := txt_len ((goodSm n).value _ _ _ _ _ hq)
                  exact ex_value_sg_ok hl hS hsk hs2 hd' hlt' hw (by omega) hf (by omega) (by omega)
            have other : ∀ w, wd (c :: l1) = w → w.bytes ≠ [45] → w.bytes ≠ [33] → w.bytes ≠ [40] → Fun Tryd.prog w0 29 [.pointer (some ⟨r, 0, none⟩)] (src r S l p :: A) (AnyR w0 r S A (.error (c :: l1, 40))) := fun w hw a b d => ex_value_other hl hS hsk hs2 hd' hlt' hw a b d
            cases hw : wd (c :: l1) with
            | none_ => exact other _ hw (by decide) (by decide) (by decide)
            | rp => exact other _ hw (by decide) (by decide) (by decide)
            | not_ => exact sg false hw
            | bin o =>
              cases o with
              | sub_ => exact sg true hw
              | _ => exact other _ hw (by decide) (by decide) (by decide)
            | lp =>
              dsimp only
              have hf := fun A => i1.whole 1 l1 p A hl1 hp (by omega) (by omega) (by omega)
              cases hq : wholeF n 1 l1 p with
              | error e => rw [hq] at hf; exact ex_value_lp_bad hl hS hsk hs2 hd' hlt' hw hf
              | ok x =>
                obtain ⟨x, l2, q⟩ := x
                rw [hq] at hf
                have g := (good n).whole _ _ _ _ _ _ hq
                have hl3 := g.suf.trans hl1
                have hs4 := (sk_suffix l2).trans hl3
                dsimp only
                cases hs3 : sk l2 with
                | nil => exact ex_value_lp_none hl hS hsk hs2 hd' hlt' hw hf hl3 hs3
                | cons d l3 =>
                  rw [hs3] at hs4
                  dsimp only
                  by_cases hrp : wd (d :: l3) = .rp
                  · rw [if_pos hrp]; exact ex_value_lp_ok hl hS hsk hs2 hd' hlt' hw hf hl3 hs3 hs4 hrp rfl
                  · rw [if_neg hrp]
                    refine ex_value_lp_word hl hS hsk hs2 hd' hlt' hw hf hl3 hs3 hs4 rfl (fun e => hrp ?_)
                    cases hw2 : wd (d :: l3) with
                    | rp => rfl
                    | bin o => rw [hw2] at e; cases o <;> exact absurd e (by decide)
                    | _ => rw [hw2] at e; exact absurd e (by decide)
    · have hf := i1.value l p A hl hp (by omega)
      unfold wholeF
      cases hq : valueF n l p with
      | error e => rw [hq] at hf; exact ex_whole_bad hf
      | ok x =>
        obtain ⟨x, l2, q⟩ := x
        rw [hq] at hf
        have g := (good n).value _ _ _ _ _ hq
        have g1 := g.size
        have g3 := g.lt
        exact ex_whole_good (K := n) hS h1 h5 hf ⟨rfl, g.suf.trans hl, by omega, by omega, g.most, (goodSm n).value _ _ _ _ _ hq⟩ (fun k' least' l' p' A hk => (ih k' (by omega)).whole least' l' p' A)
theorem ex_whole {w0 : World} {r : Nat} {S : ByteArray} (ht : TabW w0) (hS : S.size ≤ 4611686018427387903) (n : Nat) : All w0 r S n :=
  Nat.strongRecOn n (fun n ih => ex_all ht hS n ih)
end Go.Proofs.YtoeglkkmjmhmiaaDoor
