/-
  Layer 3: what was framed is read again, what is read was framed.
-/
import Derived.Test.YthljpljbpbkkcaaDoorJournalPure
set_option linter.unusedVariables false
set_option linter.unusedSimpArgs false
namespace Go.Journal
open Go.Sl Go.Pack

theorem le4_length (n : Nat) : (le4 n).length = 4 := rfl
theorem sum_lt' (bs : List UInt8) : sum bs < 4294967296 := (~~~ (crc (BitVec.allOnes 32) bs)).isLt
theorem frame_length (r : List UInt8) : (frameB r).length = r.length + 8 := by simp [frameB, le4]
theorem le4_num4 {b : List UInt8} (h : 4 ≤ b.length) : le4 (num4 b) = b.take 4 := by
  match b, h with
  | a :: c :: d :: e :: r, _ =>
    have ha := a.toNat_lt
    have hc := c.toNat_lt
    have hd := d.toNat_lt
    have he := e.toNat_lt
    have e0 : num4 (a :: c :: d :: e :: r) = a.toNat + 256 * c.toNat + 65536 * d.toNat + 16777216 * e.toNat := rfl
    rw [e0]
    unfold le4
    have key : ∀ (x : UInt8) (m : Nat), m % 256 = x.toNat → UInt8.ofNat m = x := by
      intro x m hm
      apply UInt8.toNat_inj.1
      rw [UInt8.toNat_ofNat']
      exact hm
    rw [key a _ (by omega), key c _ (by omega), key d _ (by omega), key e _ (by omega)]
    rfl
theorem nextB_frame {r : List UInt8} (h : r.length ≤ 1048576) (t : List UInt8) : nextB (frameB r ++ t) = some r.length := by
  have hs := sum_lt' (le4 r.length ++ r)
  have e1 : frameB r ++ t = le4 r.length ++ (le4 (sum (le4 r.length ++ r)) ++ (r ++ t)) := by simp [frameB]
  have hn : num4 (frameB r ++ t) = r.length := by rw [e1]; exact num4_le4 (by omega) _
  have hd : (frameB r ++ t).drop 4 = le4 (sum (le4 r.length ++ r)) ++ (r ++ t) := by rw [e1]; exact List.drop_left' (le4_length _)
  have hn2 : num4 ((frameB r ++ t).drop 4) = sum (le4 r.length ++ r) := by rw [hd]; exact num4_le4 hs _
  have ht : (frameB r ++ t).take 4 = le4 r.length := by rw [e1]; exact List.take_left' (le4_length _)
  have hd8 : (frameB r ++ t).drop 8 = r ++ t := by
    have : (frameB r ++ t).drop 8 = ((frameB r ++ t).drop 4).drop 4 := by rw [List.drop_drop]
    rw [this, hd]; exact List.drop_left' (le4_length _)
  unfold nextB
  rw [hn, hn2, ht, hd8, List.take_left' rfl, if_neg (by rw [List.length_append, frame_length]; omega), if_neg (by rw [List.length_append, frame_length]; omega), if_neg (by simp)]
def flat (rs : List (List UInt8)) : List UInt8 := rs.flatMap frameB
theorem flat_append (a b : List (List UInt8)) : flat (a ++ b) = flat a ++ flat b := by simp [flat]
theorem flat_one (r : List UInt8) : flat [r] = frameB r := by simp [flat]
theorem recsB_frame {r : List UInt8} (h : r.length ≤ 1048576) (t : List UInt8) : recsB (frameB r ++ t) = (r :: (recsB t).1, (recsB t).2) := by
  have hn := nextB_frame h t
  have e1 : frameB r ++ t = (le4 r.length ++ le4 (sum (le4 r.length ++ r))) ++ (r ++ t) := by simp [frameB]
  have hd8 : (frameB r ++ t).drop 8 = r ++ t := by rw [e1]; exact List.drop_left' rfl
  have hd : (frameB r ++ t).drop (8 + r.length) = t := by
    rw [← List.drop_drop, hd8]; exact List.drop_left' rfl
  rw [recsB_some hn, hd, hd8, List.take_left' rfl]
theorem recsB_flat : ∀ (rs : List (List UInt8)) (t : List UInt8), (∀ r ∈ rs, r.length ≤ 1048576) → recsB (flat rs ++ t) = (rs ++ (recsB t).1, (recsB t).2)
  | [], t, _ => by simp [flat]
  | r :: rs, t, h => by
    have e : flat (r :: rs) ++ t = frameB r ++ (flat rs ++ t) := by simp [flat]
    rw [e, recsB_frame (h r (by simp)), recsB_flat rs t fun x hx => h x (by simp [hx])]
    rfl
theorem recsB_nil : recsB [] = ([], []) := recsB_none (by simp [nextB])
theorem nextB_take {b : List UInt8} {n : Nat} (h : nextB b = some n) : b.take (8 + n) = frameB ((b.drop 8).take n) := by
  have hle := nextB_le h
  unfold nextB at h
  rw [if_neg (by omega)] at h
  split at h
  · cases h
  · split at h
    · cases h
    · rename_i h1 h2
      have hn : num4 b = n := by simpa using h
      have h2' : sum (b.take 4 ++ (b.drop 8).take (num4 b)) = num4 (b.drop 4) := by simpa using h2
      have hl : ((b.drop 8).take n).length = n := by rw [List.length_take, List.length_drop]; omega
      unfold frameB
      rw [hl, ← hn, le4_num4 (by omega), h2', le4_num4 (by rw [List.length_drop]; omega)]
      have e8 : b.take 4 ++ (b.drop 4).take 4 = b.take 8 := by
        rw [← List.take_add]
      rw [e8, List.take_add]
theorem flat_recsB : ∀ (k : Nat) (b : List UInt8), b.length ≤ k → flat (recsB b).1 ++ (recsB b).2 = b ∧ ∀ r ∈ (recsB b).1, r.length ≤ 1048576
  | 0, b, h => by
    have : b = [] := List.eq_nil_of_length_eq_zero (by omega)
    subst this; rw [recsB_nil]; simp [flat]
  | k + 1, b, h => by
    cases hn : nextB b with
    | none => rw [recsB_none hn]; simp [flat]
    | some n =>
      have hle := nextB_le hn
      have ih := flat_recsB k (b.drop (8 + n)) (by rw [List.length_drop]; omega)
      rw [recsB_some hn]
      constructor
      · have e : flat ((b.drop 8).take n :: (recsB (b.drop (8 + n))).1) = frameB ((b.drop 8).take n) ++ flat (recsB (b.drop (8 + n))).1 := by simp [flat]
        dsimp only
        rw [e, ← nextB_take hn, List.append_assoc, ih.1, List.take_append_drop]
      · intro r hr
        rcases List.mem_cons.1 hr with rfl | hr
        · rw [List.length_take]; omega
        · exact ih.2 r hr
theorem recsB_whole (b : List UInt8) : flat (recsB b).1 ++ (recsB b).2 = b := (flat_recsB _ b (Nat.le_refl _)).1
theorem recsB_short (b : List UInt8) : ∀ r ∈ (recsB b).1, r.length ≤ 1048576 := (flat_recsB _ b (Nat.le_refl _)).2
theorem recsB_again (b : List UInt8) : recsB (flat (recsB b).1) = ((recsB b).1, []) := by
  have := recsB_flat (recsB b).1 [] (recsB_short b)
  rw [List.append_nil, recsB_nil] at this
  simpa using this
theorem flat_length (rs : List (List UInt8)) : rs.length ≤ (flat rs).length := by
  induction rs with
  | nil => simp
  | cons r rs ih =>
    have e : flat (r :: rs) = frameB r ++ flat rs := by simp [flat]
    rw [e, List.length_append, frame_length, List.length_cons]; omega
end Go.Journal
