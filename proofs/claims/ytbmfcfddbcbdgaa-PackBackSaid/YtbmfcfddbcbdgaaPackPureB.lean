/-
  What the sum tells: bytes turned within four neighbouring places turn it. Plain theorems.
-/
import Derived.Test.YtbmfcfddbcbdgaaPackPure
set_option linter.unusedVariables false
set_option linter.unusedSimpArgs false
namespace Go.Pack

theorem gstep_lin (a b : BitVec 32) : gstep (a ^^^ b) = gstep a ^^^ gstep b := by
  unfold gstep
  rw [BitVec.ushiftRight_xor_distrib, BitVec.getLsbD_xor]
  cases a.getLsbD 0 <;> cases b.getLsbD 0 <;> simp
  · rw [BitVec.xor_assoc]
  · rw [BitVec.xor_assoc, BitVec.xor_assoc, BitVec.xor_comm poly]
  · rw [BitVec.xor_assoc, BitVec.xor_comm poly, BitVec.xor_assoc, BitVec.xor_self, BitVec.xor_zero]
theorem gstep_zero {r : BitVec 32} (h : gstep r = 0#32) : r = 0#32 := by
  unfold gstep at h
  by_cases hb : r.getLsbD 0 = true
  · rw [if_pos hb] at h
    have := congrArg (fun x : BitVec 32 => x.getLsbD 31) h
    simp [poly] at this
  · rw [if_neg hb] at h
    simp only [BitVec.xor_zero] at h
    apply BitVec.eq_of_getLsbD_eq
    intro i hi
    cases i with
    | zero => simpa using hb
    | succ i =>
      have := congrArg (fun x : BitVec 32 => x.getLsbD i) h
      simp only [BitVec.getLsbD_ushiftRight, BitVec.getLsbD_zero] at this ⊢
      rw [Nat.add_comm] at this; exact this
theorem gstep_inj {a b : BitVec 32} (h : gstep a = gstep b) : a = b := by
  have : gstep (a ^^^ b) = 0#32 := by rw [gstep_lin, h, BitVec.xor_self]
  exact BitVec.xor_eq_zero_iff.1 (gstep_zero this)
theorem gsteps_lin (k : Nat) (a b : BitVec 32) : gsteps k (a ^^^ b) = gsteps k a ^^^ gsteps k b := by
  induction k with
  | zero => rfl
  | succ k ih => rw [gsteps_succ, gsteps_succ, gsteps_succ, ih, gstep_lin]
theorem gsteps_inj {k : Nat} {a b : BitVec 32} (h : gsteps k a = gsteps k b) : a = b := by
  induction k with
  | zero => exact h
  | succ k ih => rw [gsteps_succ, gsteps_succ] at h; exact ih (gstep_inj h)
theorem gsteps_add (j k : Nat) (r : BitVec 32) : gsteps (j + k) r = gsteps j (gsteps k r) := by
  induction j with
  | zero => simp [gsteps]
  | succ j ih => rw [Nat.add_right_comm, gsteps_succ, gsteps_succ, ih]
theorem gstep_even {m : Nat} (h : 2 * m < 4294967296) : gstep (BitVec.ofNat 32 (2 * m)) = BitVec.ofNat 32 m := by
  unfold gstep
  have h0 : (BitVec.ofNat 32 (2 * m)).getLsbD 0 = false := by simp [BitVec.getLsbD, BitVec.toNat_ofNat, Nat.testBit_zero]
  rw [h0]
  simp only [Bool.false_eq_true, if_false, BitVec.xor_zero]
  apply BitVec.eq_of_toNat_eq
  simp only [BitVec.toNat_ushiftRight, BitVec.toNat_ofNat, Nat.shiftRight_eq_div_pow]
  omega
theorem gsteps_shift : ∀ (k m : Nat), 2 ^ k * m < 4294967296 → gsteps k (BitVec.ofNat 32 (2 ^ k * m)) = BitVec.ofNat 32 m
  | 0, m, _ => by simp [gsteps]
  | k + 1, m, h => by
    rw [gsteps_succ]
    have e : 2 ^ (k + 1) * m = 2 ^ k * (2 * m) := by rw [Nat.pow_succ]; ac_rfl
    rw [e] at h ⊢
    rw [gsteps_shift k (2 * m) h, gstep_even]
    have : 2 * m ≤ 2 ^ k * (2 * m) := Nat.le_mul_of_pos_left _ (Nat.pow_pos (by omega))
    omega
def leN : List UInt8 → Nat
  | [] => 0
  | c :: cs => c.toNat + 256 * leN cs
theorem leN_lt : ∀ l : List UInt8, leN l < 256 ^ l.length
  | [] => by simp [leN]
  | c :: cs => by
    have := leN_lt cs
    have hc := c.toNat_lt
    simp only [leN, List.length_cons, Nat.pow_succ]
    omega
theorem leN_inj : ∀ (l l' : List UInt8), l.length = l'.length → leN l = leN l' → l = l'
  | [], [], _, _ => rfl
  | c :: cs, c' :: cs', hl, h => by
    simp only [leN] at h
    have hc := c.toNat_lt
    have hc' := c'.toNat_lt
    have h1 : c.toNat = c'.toNat := by omega
    have h2 : leN cs = leN cs' := by omega
    rw [UInt8.toNat_inj.1 h1, leN_inj cs cs' (by simpa using hl) h2]
theorem xor_add {c m : Nat} (hc : c < 256) (h : 256 * m < 4294967296) : BitVec.ofNat 32 c ^^^ BitVec.ofNat 32 (256 * m) = BitVec.ofNat 32 (c + 256 * m) := by
  apply BitVec.eq_of_toNat_eq
  simp only [BitVec.toNat_xor, BitVec.toNat_ofNat]
  rw [Nat.mod_eq_of_lt (by omega), Nat.mod_eq_of_lt (by omega), Nat.mod_eq_of_lt (by omega)]
  apply Nat.eq_of_testBit_eq
  intro j
  rw [Nat.testBit_xor, Nat.add_comm c, show (256 : Nat) = 2 ^ 8 by decide, Nat.testBit_two_pow_mul_add _ (by simpa using hc), Nat.testBit_two_pow_mul]
  by_cases hj : j < 8
  · have : ¬ 8 ≤ j := by omega
    simp [hj, this]
  · have h1 : c.testBit j = false := Nat.testBit_lt_two_pow (Nat.lt_of_lt_of_le (by simpa using hc : c < 2 ^ 8) (Nat.pow_le_pow_right (by omega) (by omega)))
    have : 8 ≤ j := by omega
    simp [hj, h1, this]
theorem crc_word : ∀ (l : List UInt8) (r : BitVec 32), l.length ≤ 4 → crc r l = gsteps (8 * l.length) (r ^^^ BitVec.ofNat 32 (leN l))
  | [], r, _ => by simp [crc, gsteps, leN]
  | c :: cs, r, h => by
    have h3 : cs.length ≤ 3 := by simpa using h
    have hlt : 256 * leN cs < 4294967296 := by
      have := leN_lt cs
      have h2 : 256 ^ cs.length ≤ 256 ^ 3 := Nat.pow_le_pow_right (by omega) h3
      omega
    have e : crc r (c :: cs) = crc (crcByte r c) cs := rfl
    rw [e, crc_word cs _ (by omega), crcByte]
    have hs := gsteps_shift 8 (leN cs) hlt
    rw [show (2 : Nat) ^ 8 = 256 by decide] at hs
    rw [← hs, ← gsteps_lin, ← gsteps_add, List.length_cons, Nat.mul_succ, leN, ← xor_add c.toNat_lt hlt, BitVec.xor_assoc]
theorem crc_state : ∀ (l : List UInt8) {r s : BitVec 32}, crc r l = crc s l → r = s
  | [], _, _, h => h
  | c :: cs, r, s, h => by
    have h1 : crc (crcByte r c) cs = crc (crcByte s c) cs := h
    have h2 := crc_state cs h1
    have h3 := gsteps_inj h2
    have h4 := congrArg (· ^^^ BitVec.ofNat 32 c.toNat) h3
    simpa [BitVec.xor_assoc] using h4
theorem crc_app (r : BitVec 32) (xs ys : List UInt8) : crc r (xs ++ ys) = crc (crc r xs) ys := by simp [crc]
theorem sum_mid {pre w w' post : List UInt8} (hl : w.length = w'.length) (h4 : w.length ≤ 4) (h : sum (pre ++ (w ++ post)) = sum (pre ++ (w' ++ post))) : w = w' := by
  unfold sum at h
  have h1 := BitVec.eq_of_toNat_eq h
  have h2 : crc (BitVec.allOnes 32) (pre ++ (w ++ post)) = crc (BitVec.allOnes 32) (pre ++ (w' ++ post)) := by
    have := congrArg (fun x : BitVec 32 => ~~~ x) h1; simpa using this
  rw [crc_app, crc_app, crc_app, crc_app] at h2
  have h3 := crc_state post h2
  rw [crc_word w _ h4, crc_word w' _ (hl ▸ h4), hl] at h3
  have h5 := gsteps_inj h3
  have h6 : BitVec.ofNat 32 (leN w) = BitVec.ofNat 32 (leN w') := by
    have := congrArg (fun x => crc (BitVec.allOnes 32) pre ^^^ x) h5
    simpa [← BitVec.xor_assoc] using this
  refine leN_inj _ _ hl ?_
  have h7 := congrArg BitVec.toNat h6
  simp only [BitVec.toNat_ofNat] at h7
  have b1 := leN_lt w
  have b2 := leN_lt w'
  have p1 : 256 ^ w.length ≤ 256 ^ 4 := Nat.pow_le_pow_right (by omega) h4
  have p2 : 256 ^ w'.length ≤ 256 ^ 4 := Nat.pow_le_pow_right (by omega) (hl ▸ h4)
  rw [Nat.mod_eq_of_lt (by omega), Nat.mod_eq_of_lt (by omega)] at h7
  exact h7
/-- lists alike but in four neighbouring places have one sum just when they are alike -/
theorem sum_tell {l l' : List UInt8} {a : Nat} (hl : l.length = l'.length) (h : ∀ j, ¬ (a ≤ j ∧ j < a + 4) → l[j]? = l'[j]?) (hs : sum l = sum l') : l = l' := by
  have s1 : ∀ x : List UInt8, x = x.take a ++ ((x.drop a).take 4 ++ (x.drop a).drop 4) := fun x => by rw [List.take_append_drop, List.take_append_drop]
  have e1 : l.take a = l'.take a := by
    apply List.ext_getElem?; intro j
    simp only [List.getElem?_take]; split
    · exact h j (by omega)
    · rfl
  have e2 : (l.drop a).drop 4 = (l'.drop a).drop 4 := by
    apply List.ext_getElem?; intro j
    simp only [List.getElem?_drop]
    exact h _ (by omega)
  rw [s1 l, s1 l', e1, e2] at hs
  have := sum_mid (by simp [hl]) (by simp; omega) hs
  rw [s1 l, s1 l', e1, e2, this]
end Go.Pack
