/-
  Layer 1 as plain functions: numbers' bytes, sums; no program in sight.
-/
import Derived.Test.YthljpljbpbkkcaaDoorSlMore
set_option linter.unusedVariables false
set_option linter.unusedSimpArgs false
namespace Go.Pack
open Go.Sl

/-! ### Numbers -/
/-- the whole number that stands for x -/
def zig (x : Int) : Nat := if 0 ≤ x then (2 * x).toNat else (-(2 * x) - 1).toNat
/-- back -/
def zag (z : Nat) : Int := if z % 2 = 0 then ((z / 2 : Nat) : Int) else -((z / 2 : Nat) : Int) - 1
theorem zag_zig (x : Int) : zag (zig x) = x := by
  unfold zag zig
  split <;> split <;> omega
theorem zig_lt {x : Int} (h : -9223372036854775808 ≤ x ∧ x ≤ 9223372036854775807) : zig x < 18446744073709551616 := by
  unfold zig; split <;> omega
/-- seven bits a byte, the least first -/
def leb (z : Nat) : List UInt8 := if z < 128 then [UInt8.ofNat z] else UInt8.ofNat (z % 128 + 128) :: leb (z / 128)
  decreasing_by omega
theorem leb_lt {z : Nat} (h : z < 128) : leb z = [UInt8.ofNat z] := by rw [leb, if_pos h]
theorem leb_ge {z : Nat} (h : ¬ z < 128) : leb z = UInt8.ofNat (z % 128 + 128) :: leb (z / 128) := by rw [leb, if_neg h]
theorem leb_len : ∀ (k z : Nat), z < 128 ^ k → 0 < k → (leb z).length ≤ k
  | 0, _, _, h => by omega
  | k + 1, z, hz, _ => by
    by_cases h : z < 128
    · rw [leb_lt h]; simp
    · rw [leb_ge h, List.length_cons]
      rcases Nat.eq_zero_or_pos k with rfl | hk
      · simp at hz; omega
      · have := leb_len k (z / 128) (by rw [Nat.div_lt_iff_lt_mul (by omega)]; rw [Nat.pow_succ] at hz; exact hz) hk
        omega
theorem leb_pos (z : Nat) : 0 < (leb z).length := by
  by_cases h : z < 128
  · rw [leb_lt h]; simp
  · rw [leb_ge h]; simp
theorem leb_len10 {z : Nat} (h : z < 18446744073709551616) : (leb z).length ≤ 10 := leb_len 10 z (Nat.lt_trans h (by decide)) (by omega)
def num (x : Int) : List UInt8 := leb (zig x)
theorem num_len {x : Int} (h : -9223372036854775808 ≤ x ∧ x ≤ 9223372036854775807) : 0 < (num x).length ∧ (num x).length ≤ 10 := ⟨leb_pos _, leb_len10 (zig_lt h)⟩
def text (s : List UInt8) : List UInt8 := num s.length ++ s

/-! ### The operations' raw values -/
theorem wrap_u64 {a : Int} (h : 0 ≤ a ∧ a ≤ 18446744073709551615) : IntKind.u64.wrap a = a := by
  rw [IntKind.wrap_u64]; omega
theorem ofInt_natCast (w : Nat) (a : Nat) : BitVec.ofInt w (a : Int) = BitVec.ofNat w a := by simp
theorem uwrap (k : IntKind) (hk : k.signed = false) (r : BitVec k.bits) : k.wrap (r.toNat : Int) = (r.toNat : Int) := by
  have h1 : r.toNat < 2 ^ k.bits := r.isLt
  have h2 : ((r.toNat : Int)) % ((2:Int) ^ k.bits) = (r.toNat : Int) := by
    have : ((2:Int) ^ k.bits) = ((2 ^ k.bits : Nat) : Int) := by simp
    rw [this]
    exact Int.emod_eq_of_lt (by omega) (by omega)
  simp only [IntKind.wrap, hk, Bool.false_and, h2]
  simp
theorem bXor_u {k : IntKind} (hk : k.signed = false) (a b : Int) : bXor k a b = ((BitVec.ofInt k.bits a ^^^ BitVec.ofInt k.bits b).toNat : Int) := uwrap k hk _
theorem bAnd_u {k : IntKind} (hk : k.signed = false) (a b : Int) : bAnd k a b = ((BitVec.ofInt k.bits a &&& BitVec.ofInt k.bits b).toNat : Int) := uwrap k hk _
theorem bOr_u {k : IntKind} (hk : k.signed = false) (a b : Int) : bOr k a b = ((BitVec.ofInt k.bits a ||| BitVec.ofInt k.bits b).toNat : Int) := uwrap k hk _
theorem zig_raw {x : Int} (h : -9223372036854775808 ≤ x ∧ x ≤ 9223372036854775807) :
    bXor .u64 (bShl .u64 (IntKind.u64.wrap x) 1) (IntKind.u64.wrap (bShr .i64 x 63)) = (zig x : Int) := by
  have hs : bShr .i64 x 63 = if 0 ≤ x then 0 else -1 := by
    unfold bShr
    have : (2:Int) ^ (min (63:Int).toNat IntKind.i64.bits) = 9223372036854775808 := by decide
    rw [this, Int.fdiv_eq_ediv_of_nonneg _ (by omega)]
    split <;> omega
  have hl : bShl .u64 (IntKind.u64.wrap x) 1 = if 0 ≤ x then 2 * x else 18446744073709551616 + 2 * x := by
    unfold bShl
    have : (2:Int) ^ (min (1:Int).toNat IntKind.u64.bits) = 2 := by decide
    rw [this, IntKind.wrap_u64, IntKind.wrap_u64]
    split <;> omega
  rw [hs, hl, bXor_u rfl]
  unfold zig
  by_cases hx : 0 ≤ x
  · simp only [hx, if_true]
    have h0 : IntKind.u64.wrap 0 = 0 := by decide
    rw [h0]
    have : (BitVec.ofInt IntKind.u64.bits 0) = 0#IntKind.u64.bits := by decide
    rw [this, BitVec.xor_zero]
    obtain ⟨m, rfl⟩ := Int.eq_ofNat_of_zero_le hx
    have : (2 * (m : Int)) = ((2 * m : Nat) : Int) := by omega
    rw [this, ofInt_natCast, BitVec.toNat_ofNat]
    have hb : (2:Nat) ^ IntKind.u64.bits = 18446744073709551616 := by decide
    rw [hb]; omega
  · simp only [hx, if_false]
    have h0 : IntKind.u64.wrap (-1) = 18446744073709551615 := by decide
    rw [h0]
    have : (BitVec.ofInt IntKind.u64.bits 18446744073709551615) = BitVec.allOnes IntKind.u64.bits := by decide
    rw [this, BitVec.xor_allOnes, BitVec.toNat_not]
    obtain ⟨m, hm⟩ := Int.eq_ofNat_of_zero_le (show 0 ≤ 18446744073709551616 + 2 * x by omega)
    rw [hm]
    rw [ofInt_natCast, BitVec.toNat_ofNat]
    have hb : (2:Nat) ^ IntKind.u64.bits = 18446744073709551616 := by decide
    rw [hb]; omega
theorem or128 (m : Nat) (h : m < 256) : bOr .u8 (m : Int) 128 = ((m % 128 + 128 : Nat) : Int) := by
  rw [bOr_u rfl, ofInt_natCast]
  have key : ∀ m : Fin 256, ((BitVec.ofNat IntKind.u8.bits m.val ||| BitVec.ofInt IntKind.u8.bits 128).toNat) = m.val % 128 + 128 := by decide +kernel
  have := key ⟨m, h⟩
  simp only at this
  rw [this]
theorem byte_more (z : Nat) : Value.int .u8 (bOr .u8 (IntKind.u8.wrap (z : Int)) 128) = u8v (UInt8.ofNat (z % 128 + 128)) := by
  have h1 : IntKind.u8.wrap (z : Int) = ((z % 256 : Nat) : Int) := by rw [IntKind.wrap_u8]; omega
  rw [h1, or128 _ (Nat.mod_lt _ (by omega))]
  unfold u8v
  have : (UInt8.ofNat (z % 128 + 128)).toNat = z % 256 % 128 + 128 := by
    rw [UInt8.toNat_ofNat']; omega
  rw [this]
theorem byte_last (z : Nat) (h : z < 128) : Value.int .u8 (IntKind.u8.wrap (z : Int)) = u8v (UInt8.ofNat z) := by
  have h1 : IntKind.u8.wrap (z : Int) = ((z : Nat) : Int) := by rw [IntKind.wrap_u8]; omega
  rw [h1]
  unfold u8v
  have : (UInt8.ofNat z).toNat = z := by rw [UInt8.toNat_ofNat']; omega
  rw [this]
theorem shr7 (z : Nat) : bShr .u64 (z : Int) 7 = ((z / 128 : Nat) : Int) := by
  unfold bShr
  have : (2:Int) ^ (min (7:Int).toNat IntKind.u64.bits) = 128 := by decide
  rw [this, Int.fdiv_eq_ediv_of_nonneg _ (by omega)]
  omega

/-! ### Sums -/
def poly : BitVec 32 := 0xEDB88320#32
def gstep (r : BitVec 32) : BitVec 32 := (r >>> 1) ^^^ (if r.getLsbD 0 then poly else 0#32)
def gsteps : Nat → BitVec 32 → BitVec 32
  | 0, r => r
  | k + 1, r => gsteps k (gstep r)
def crcByte (r : BitVec 32) (c : UInt8) : BitVec 32 := gsteps 8 (r ^^^ BitVec.ofNat 32 c.toNat)
def crc (r : BitVec 32) (bs : List UInt8) : BitVec 32 := bs.foldl crcByte r
def sum (bs : List UInt8) : Nat := (~~~ (crc (BitVec.allOnes 32) bs)).toNat
theorem u32_xor (r s : BitVec 32) : bXor .u32 (r.toNat : Int) (s.toNat : Int) = ((r ^^^ s).toNat : Int) := by
  rw [bXor_u rfl, ofInt_natCast, ofInt_natCast]
  show ((BitVec.ofNat 32 r.toNat ^^^ BitVec.ofNat 32 s.toNat).toNat : Int) = _
  simp
theorem u32_and (r s : BitVec 32) : bAnd .u32 (r.toNat : Int) (s.toNat : Int) = ((r &&& s).toNat : Int) := by
  rw [bAnd_u rfl, ofInt_natCast, ofInt_natCast]
  show ((BitVec.ofNat 32 r.toNat &&& BitVec.ofNat 32 s.toNat).toNat : Int) = _
  simp
theorem u32_neg (r : BitVec 32) : IntKind.u32.wrap (0 - (r.toNat : Int)) = ((-r).toNat : Int) := by
  rw [IntKind.wrap_u32, BitVec.toNat_neg]
  have := r.isLt
  omega
theorem u32_shr1 (r : BitVec 32) : bShr .u32 (r.toNat : Int) 1 = ((r >>> 1).toNat : Int) := by
  unfold bShr
  have : (2:Int) ^ (min (1:Int).toNat IntKind.u32.bits) = 2 := by decide
  rw [this, Int.fdiv_eq_ediv_of_nonneg _ (by omega), BitVec.toNat_ushiftRight]
  omega
theorem step_raw (r : BitVec 32) : bXor .u32 (bShr .u32 (r.toNat : Int) 1) (bAnd .u32 3988292384 (IntKind.u32.wrap (0 - bAnd .u32 (r.toNat : Int) 1))) = ((gstep r).toNat : Int) := by
  have e1 : (1 : Int) = ((1#32).toNat : Int) := by decide
  have e2 : (3988292384 : Int) = (poly.toNat : Int) := by decide
  rw [u32_shr1]
  conv => lhs; arg 3; arg 3; arg 2; arg 2; rw [e1, u32_and]
  rw [u32_neg, e2, u32_and, u32_xor]
  congr 2
  unfold gstep
  congr 1
  have h : r &&& 1#32 = if r.getLsbD 0 then 1#32 else 0#32 := by
    ext i hi
    by_cases h0 : i = 0
    · subst h0
      have e : r.getLsbD 0 = r[0] := by simp
      rw [e]
      cases hr : r[0] <;> simp [hr]
    · have : (1#32).getLsbD i = false := by simp [BitVec.getLsbD_one, h0]
      cases hr : r.getLsbD 0 <;> simp_all
  rw [h]
  split
  · decide
  · decide
theorem xor_byte (r : BitVec 32) (c : UInt8) : bXor .u32 (r.toNat : Int) (IntKind.u32.wrap (c.toNat : Int)) = ((r ^^^ BitVec.ofNat 32 c.toNat).toNat : Int) := by
  have : IntKind.u32.wrap (c.toNat : Int) = ((BitVec.ofNat 32 c.toNat).toNat : Int) := by
    have := c.toNat_lt
    rw [IntKind.wrap_u32, BitVec.toNat_ofNat]; omega
  rw [this, u32_xor]
theorem com_raw (r : BitVec 32) : bXor .u32 (if IntKind.u32.signed then -1 else IntKind.u32.max) (r.toNat : Int) = ((~~~r).toNat : Int) := by
  have : (if IntKind.u32.signed then -1 else IntKind.u32.max : Int) = ((BitVec.allOnes 32).toNat : Int) := by decide
  rw [this, u32_xor]
  rw [BitVec.xor_comm, BitVec.xor_allOnes]
theorem gsteps_succ (k : Nat) (r : BitVec 32) : gsteps (k + 1) r = gstep (gsteps k r) := by
  induction k generalizing r with
  | zero => rfl
  | succ k ih => rw [gsteps, ih]; rfl
theorem crc_snoc (r : BitVec 32) (bs : List UInt8) (c : UInt8) : crc r (bs ++ [c]) = crcByte (crc r bs) c := by simp [crc]

/-! ### Reading numbers -/
def rdn : Nat → Nat → List UInt8 → Option (Nat × Nat)
  | _, _, [] => none
  | i, z, c :: r => if (i = 9 ∧ c.toNat ≠ 1) ∨ (0 < i ∧ c.toNat = 0) then none else
    if c.toNat < 128 then some (z + c.toNat % 128 * 128 ^ i, i + 1) else rdn (i + 1) (z + c.toNat % 128 * 128 ^ i) r
/-- the number with which bytes begin, and how many bytes it has -/
def take (bs : List UInt8) : Option (Int × Nat) := (rdn 0 0 bs).map fun p => (zag p.1, p.2)
theorem pow128 (i : Nat) : 128 ^ i = 2 ^ (7 * i) := by
  have : (128 : Nat) = 2 ^ 7 := by decide
  rw [this, ← Nat.pow_mul]
theorem rdn_lt : ∀ (bs : List UInt8) (i z : Nat), z < 128 ^ i → i ≤ 9 → ∀ p, rdn i z bs = some p → p.1 < 18446744073709551616 ∧ i < p.2 ∧ p.2 ≤ i + bs.length
  | [], _, _, _, _, p, h => by simp [rdn] at h
  | c :: r, i, z, hz, hi, p, h => by
    rw [rdn] at h
    split at h
    · cases h
    · rename_i hE
      have h9 : i = 9 → c.toNat = 1 := by intro h; by_cases hc : c.toNat = 1 <;> simp_all
      have hp : 0 < 128 ^ i := Nat.pow_pos (by omega)
      split at h
      · rename_i hc
        injection h with h
        subst h
        refine ⟨?_, by simp, by simp⟩
        by_cases h9' : i = 9
        · have := h9 h9'
          subst h9'
          have e : (128:Nat) ^ 9 = 9223372036854775808 := by decide
          rw [e] at hz ⊢
          simp [this]; omega
        · have : 128 ^ (i + 1) ≤ 128 ^ 9 := Nat.pow_le_pow_right (by omega) (by omega)
          have e : (128:Nat) ^ 9 = 9223372036854775808 := by decide
          have e2 : 128 ^ (i + 1) = 128 ^ i * 128 := Nat.pow_succ ..
          have : c.toNat % 128 * 128 ^ i ≤ 127 * 128 ^ i := Nat.mul_le_mul_right _ (by omega)
          simp only; omega
      · rename_i hc
        have h9' : i ≠ 9 := fun h => by have := h9 h; omega
        have e2 : 128 ^ (i + 1) = 128 ^ i * 128 := Nat.pow_succ ..
        have : c.toNat % 128 * 128 ^ i ≤ 127 * 128 ^ i := Nat.mul_le_mul_right _ (by omega)
        obtain ⟨a, b, d⟩ := rdn_lt r (i + 1) (z + c.toNat % 128 * 128 ^ i) (by omega) (by omega) p h
        exact ⟨a, by omega, by simp; omega⟩
theorem or_raw {z i : Nat} (c : UInt8) (hz : z < 128 ^ i) (hi : i ≤ 9) (h9 : i = 9 → c.toNat = 1) :
    bOr .u64 (z : Int) (bShl .u64 (IntKind.u64.wrap (bAnd .u8 (c.toNat : Int) 127)) (7 * (i : Int))) = ((z + c.toNat % 128 * 128 ^ i : Nat) : Int) := by
  have ha : bAnd .u8 (c.toNat : Int) 127 = ((c.toNat % 128 : Nat) : Int) := by
    rw [bAnd_u rfl, ofInt_natCast]
    have key : ∀ m : Fin 256, ((BitVec.ofNat IntKind.u8.bits m.val &&& BitVec.ofInt IntKind.u8.bits 127).toNat) = m.val % 128 := by decide +kernel
    have := key ⟨c.toNat, c.toNat_lt⟩
    simp only at this
    rw [this]
  have hm := Nat.mod_lt c.toNat (show 0 < 128 by omega)
  have hp : 0 < 128 ^ i := Nat.pow_pos (by omega)
  have hb : c.toNat % 128 * 128 ^ i + 128 ^ i ≤ 18446744073709551616 := by
    by_cases h9' : i = 9
    · have := h9 h9'; subst h9'; rw [this]; decide
    · have h1 : 128 ^ (i + 1) ≤ 128 ^ 9 := Nat.pow_le_pow_right (by omega) (by omega)
      have e : (128:Nat) ^ 9 = 9223372036854775808 := by decide
      have e2 : 128 ^ (i + 1) = 128 ^ i * 128 := Nat.pow_succ ..
      have : c.toNat % 128 * 128 ^ i ≤ 127 * 128 ^ i := Nat.mul_le_mul_right _ (by omega)
      omega
  have hs : bShl .u64 (IntKind.u64.wrap (bAnd .u8 (c.toNat : Int) 127)) (7 * (i : Int)) = ((c.toNat % 128 * 128 ^ i : Nat) : Int) := by
    rw [ha, wrap_u64 (by omega)]
    unfold bShl
    have h7 : min (7 * (i : Int)).toNat IntKind.u64.bits = 7 * i := by
      have : IntKind.u64.bits = 64 := rfl
      rw [this]; omega
    rw [h7, pow128]
    rw [pow128] at hb hp
    have : ((c.toNat % 128 : Nat) : Int) * 2 ^ (7 * i) = ((c.toNat % 128 * 2 ^ (7 * i) : Nat) : Int) := by simp
    rw [this]
    exact wrap_u64 (by omega)
  rw [hs, bOr_u rfl, ofInt_natCast, ofInt_natCast]
  rw [BitVec.toNat_or, BitVec.toNat_ofNat, BitVec.toNat_ofNat]
  have hb64 : (2:Nat) ^ IntKind.u64.bits = 18446744073709551616 := by decide
  rw [hb64, Nat.mod_eq_of_lt (by omega), Nat.mod_eq_of_lt (by omega)]
  rw [pow128] at hz ⊢
  have := Nat.two_pow_add_eq_or_of_lt hz (c.toNat % 128)
  rw [Nat.or_comm, Nat.mul_comm (c.toNat % 128), ← this, Nat.add_comm]
theorem zag_raw {z : Nat} (h : z < 18446744073709551616) : bXor .i64 (IntKind.i64.wrap (bShr .u64 (z : Int) 1)) (IntKind.i64.wrap (0 - IntKind.i64.wrap (bAnd .u64 (z : Int) 1))) = zag z := by
  have h1 : bShr .u64 (z : Int) 1 = ((z / 2 : Nat) : Int) := by
    unfold bShr
    have : (2:Int) ^ (min (1:Int).toNat IntKind.u64.bits) = 2 := by decide
    rw [this, Int.fdiv_eq_ediv_of_nonneg _ (by omega)]; omega
  have h2 : bAnd .u64 (z : Int) 1 = ((z % 2 : Nat) : Int) := by
    rw [bAnd_u rfl, ofInt_natCast]
    have : BitVec.ofInt IntKind.u64.bits 1 = BitVec.ofNat IntKind.u64.bits 1 := by decide
    rw [this, BitVec.toNat_and, BitVec.toNat_ofNat, BitVec.toNat_ofNat]
    have hb64 : (2:Nat) ^ IntKind.u64.bits = 18446744073709551616 := by decide
    rw [hb64, Nat.mod_eq_of_lt h, Nat.mod_eq_of_lt (by omega)]
    rw [Nat.and_one_is_mod]
  have w1 : IntKind.i64.wrap ((z / 2 : Nat) : Int) = ((z / 2 : Nat) : Int) := wrap64_in (by omega)
  have w2 : IntKind.i64.wrap ((z % 2 : Nat) : Int) = ((z % 2 : Nat) : Int) := wrap64_in (by omega)
  rw [h1, h2, w1, w2]
  have w3 : IntKind.i64.wrap (0 - ((z % 2 : Nat) : Int)) = 0 - ((z % 2 : Nat) : Int) := wrap64_in (by omega)
  rw [w3]
  unfold zag bXor
  rw [ofInt_natCast]
  have hb64 : (2:Nat) ^ IntKind.i64.bits = 18446744073709551616 := by decide
  by_cases hz : z % 2 = 0
  · simp only [hz, if_true]
    have : BitVec.ofInt IntKind.i64.bits (0 - ((0 : Nat) : Int)) = 0#IntKind.i64.bits := by decide
    rw [this, BitVec.xor_zero, BitVec.toNat_ofNat, hb64, Nat.mod_eq_of_lt (by omega)]
    exact wrap64_in (by omega)
  · have hz1 : z % 2 = 1 := by omega
    simp only [hz1]
    have : BitVec.ofInt IntKind.i64.bits (0 - ((1 : Nat) : Int)) = BitVec.allOnes IntKind.i64.bits := by decide
    rw [this, BitVec.xor_allOnes, BitVec.toNat_not, BitVec.toNat_ofNat, hb64, Nat.mod_eq_of_lt (by omega)]
    rw [IntKind.wrap_i64]
    simp
    omega

/-! ### The document's way of reading -/
def lebval : List UInt8 → Nat
  | [] => 0
  | c :: r => c.toNat % 128 + 128 * lebval r
def lead : List UInt8 → Nat
  | [] => 0
  | c :: r => if 128 ≤ c.toNat then lead r + 1 else 0
theorem lead_le : ∀ bs : List UInt8, lead bs ≤ bs.length
  | [] => by simp [lead]
  | c :: r => by have := lead_le r; unfold lead; split <;> simp <;> omega
theorem lead_eq : ∀ (bs : List UInt8) (n : Nat), n ≤ bs.length → (∀ j, j < n → 128 ≤ (bs.getD j 0).toNat) → (n < bs.length → (bs.getD n 0).toNat < 128) → lead bs = n
  | [], n, h, _, _ => by simp at h; simp [lead, h]
  | c :: r, 0, _, _, h => by
    have := h (by simp)
    simp at this
    unfold lead; rw [if_neg (by omega)]
  | c :: r, n + 1, h, h1, h2 => by
    have h0 := h1 0 (by omega)
    simp at h0
    unfold lead
    rw [if_pos h0, lead_eq r n (by simpa using h) (fun j hj => by simpa using h1 (j + 1) (by omega)) (fun hn => by simpa using h2 (by simpa using hn))]
def okEnd (i : Nat) (bs : List UInt8) : Prop := lead bs < bs.length ∧ i + lead bs ≤ 9 ∧ ¬ (0 < i + lead bs ∧ (bs.getD (lead bs) 0).toNat = 0) ∧ ¬ (i + lead bs = 9 ∧ (bs.getD (lead bs) 0).toNat ≠ 1)
theorem rdn_spec : ∀ (bs : List UInt8) (i z : Nat), i ≤ 9 → (okEnd i bs → rdn i z bs = some (z + 128 ^ i * lebval (bs.take (lead bs + 1)), i + lead bs + 1)) ∧ (¬ okEnd i bs → rdn i z bs = none)
  | [], i, z, hi => by simp [okEnd, rdn]
  | c :: r, i, z, hi => by
    by_cases hc : 128 ≤ c.toNat
    · have hl : lead (c :: r) = lead r + 1 := by rw [lead, if_pos hc]
      rw [hl]
      by_cases h9 : i = 9
      · constructor
        · rintro ⟨_, h, _⟩; rw [hl] at h; omega
        · intro _; rw [rdn, if_pos (.inl ⟨h9, by omega⟩)]
      · have hE : ¬ ((i = 9 ∧ c.toNat ≠ 1) ∨ (0 < i ∧ c.toNat = 0)) := by omega
        obtain ⟨i1, i2⟩ := rdn_spec r (i + 1) (z + c.toNat % 128 * 128 ^ i) (by omega)
        rw [rdn, if_neg hE, if_neg (by omega)]
        have hok : okEnd i (c :: r) ↔ okEnd (i + 1) r := by
          unfold okEnd
          rw [hl]
          simp only [List.length_cons, List.getD_cons_succ, Nat.add_lt_add_iff_right, show i + (lead r + 1) = i + 1 + lead r by omega]
        rw [hok]
        refine ⟨fun h => ?_, i2⟩
        rw [i1 h, List.take_succ_cons, lebval, Nat.pow_succ]
        simp only [Option.some.injEq, Prod.mk.injEq]
        refine ⟨?_, by omega⟩
        rw [Nat.mul_add, Nat.mul_comm (c.toNat % 128), Nat.mul_assoc]
        omega
    · have hl : lead (c :: r) = 0 := by rw [lead, if_neg hc]
      rw [hl]
      have hok : okEnd i (c :: r) ↔ ¬ ((i = 9 ∧ c.toNat ≠ 1) ∨ (0 < i ∧ c.toNat = 0)) := by
        unfold okEnd; rw [hl]; simp; omega
      rw [hok]
      constructor
      · intro h
        rw [rdn, if_neg h, if_pos (by omega)]
        simp [lebval, Nat.mul_comm]
      · intro h; rw [rdn, if_pos (by omega)]
theorem lebval_lt : ∀ (l : List UInt8), lebval l < 128 ^ l.length
  | [] => by simp [lebval]
  | c :: r => by
    have := lebval_lt r
    have h := Nat.mod_lt c.toNat (show 0 < 128 by omega)
    rw [lebval, List.length_cons, Nat.pow_succ]
    omega
/-! the document's numbers -/
theorem ref_more (z : Nat) : Value.int .u8 (IntKind.u8.wrap (IntKind.u64.wrap ((z : Int).tmod 128 + 128))) = u8v (UInt8.ofNat (z % 128 + 128)) := by
  have h1 : (z : Int).tmod 128 = ((z % 128 : Nat) : Int) := by rw [Int.tmod_eq_emod_of_nonneg (by omega)]; omega
  rw [h1, wrap_u64 (by omega)]
  have h2 : IntKind.u8.wrap (((z % 128 : Nat) : Int) + 128) = ((z % 128 + 128 : Nat) : Int) := by rw [IntKind.wrap_u8]; omega
  rw [h2]
  unfold u8v
  have : (UInt8.ofNat (z % 128 + 128)).toNat = z % 128 + 128 := by rw [UInt8.toNat_ofNat']; omega
  rw [this]
theorem ref_quo {z : Nat} (h : z < 18446744073709551616) : IntKind.u64.wrap ((z : Int).tdiv 128) = ((z / 128 : Nat) : Int) := by
  rw [Int.tdiv_eq_ediv_of_nonneg (by omega), wrap_u64 (by omega)]; omega
theorem ref_zig_pos {x : Int} (h : -9223372036854775808 ≤ x ∧ x ≤ 9223372036854775807) (h0 : 0 ≤ x) : IntKind.u64.wrap (2 * IntKind.u64.wrap x) = (zig x : Int) := by
  rw [wrap_u64 (a := x) (by omega), wrap_u64 (by omega)]; unfold zig; rw [if_pos h0]; omega
theorem ref_zig_neg {x : Int} (h : -9223372036854775808 ≤ x ∧ x ≤ 9223372036854775807) (h0 : ¬ 0 ≤ x) : IntKind.u64.wrap (IntKind.u64.wrap (2 * IntKind.u64.wrap (IntKind.i64.wrap (0 - (x + 1)))) + 1) = (zig x : Int) := by
  rw [wrap64_in (a := 0 - (x + 1)) (by omega), wrap_u64 (a := 0 - (x + 1)) (by omega), wrap_u64 (a := 2 * _) (by omega), wrap_u64 (by omega)]; unfold zig; rw [if_neg h0]; omega
/-! the document's sum: bit by bit -/
theorem bit_raw (c : UInt8) (k : Nat) (hk : k < 8) : IntKind.u32.wrap (bShr .u8 (c.toNat : Int) (k : Int)) = ((c.toNat >>> k : Nat) : Int) := by
  have h1 : bShr .u8 (c.toNat : Int) (k : Int) = ((c.toNat >>> k : Nat) : Int) := by
    unfold bShr
    have : min (k : Int).toNat IntKind.u8.bits = k := by have : IntKind.u8.bits = 8 := rfl
                                                         omega
    rw [this, Int.fdiv_eq_ediv_of_nonneg _ (Int.le_of_lt (Int.pow_pos (by omega))), Nat.shiftRight_eq_div_pow]
    simp
  rw [h1, IntKind.wrap_u32]
  have h2 : c.toNat >>> k ≤ c.toNat := Nat.shiftRight_le _ _
  have h3 := c.toNat_lt
  generalize c.toNat >>> k = m at *
  omega
/-- the state while the bits of c come in one by one, k of them so far -/
def refbits (r : BitVec 32) (c : UInt8) (k : Nat) : BitVec 32 := gsteps k (r ^^^ BitVec.ofNat 32 c.toNat) ^^^ BitVec.ofNat 32 (c.toNat >>> k)
theorem refbits_zero (r : BitVec 32) (c : UInt8) : refbits r c 0 = r := by
  unfold refbits gsteps
  simp only [Nat.shiftRight_zero]
  rw [BitVec.xor_assoc, BitVec.xor_self, BitVec.xor_zero]
theorem refbits_eight (r : BitVec 32) (c : UInt8) : refbits r c 8 = crcByte r c := by
  unfold refbits crcByte
  have : c.toNat >>> 8 = 0 := by rw [Nat.shiftRight_eq_div_pow]; have := c.toNat_lt; omega
  rw [this]; simp
theorem refbits_succ (r : BitVec 32) (c : UInt8) (k : Nat) : refbits r c (k + 1) = (refbits r c k >>> 1) ^^^ (if (refbits r c k).toNat % 2 ≠ (c.toNat >>> k) % 2 then poly else 0#32) := by
  have hc := c.toNat_lt
  have hk : c.toNat >>> k < 256 := Nat.lt_of_le_of_lt (Nat.shiftRight_le _ _) hc
  have hsh : BitVec.ofNat 32 (c.toNat >>> k) >>> 1 = BitVec.ofNat 32 (c.toNat >>> (k + 1)) := by
    apply BitVec.eq_of_toNat_eq
    rw [BitVec.toNat_ushiftRight, BitVec.toNat_ofNat, BitVec.toNat_ofNat, Nat.mod_eq_of_lt (by omega), Nat.mod_eq_of_lt, ← Nat.shiftRight_add]
    exact Nat.lt_of_le_of_lt (Nat.shiftRight_le _ _) (by omega)
  have hb : ∀ g b : BitVec 32, ((g ^^^ b).toNat % 2 ≠ b.toNat % 2) ↔ g.getLsbD 0 = true := by
    intro g b
    have e : ∀ x : BitVec 32, x.toNat % 2 = (x.getLsbD 0).toNat := by
      intro x; rw [BitVec.getLsbD]; cases h : x.toNat.testBit 0 <;> simp [Nat.testBit_zero] at h <;> simp <;> omega
    rw [e, e, BitVec.getLsbD_xor]
    cases g.getLsbD 0 <;> cases b.getLsbD 0 <;> simp
  unfold refbits
  rw [gsteps_succ]
  have h2 : (c.toNat >>> k) % 2 = (BitVec.ofNat 32 (c.toNat >>> k)).toNat % 2 := by rw [BitVec.toNat_ofNat, Nat.mod_eq_of_lt (show c.toNat >>> k < 2^32 by omega)]
  rw [h2]
  simp only [hb]
  unfold gstep
  rw [BitVec.ushiftRight_xor_distrib, hsh]
  generalize gsteps k (r ^^^ BitVec.ofNat 32 c.toNat) = g
  rw [BitVec.xor_assoc, BitVec.xor_assoc, BitVec.xor_comm _ (BitVec.ofNat 32 (c.toNat >>> (k + 1)))]

/-- what is left is no more than what was -/
theorem leb_sub_aux : ∀ (out : List UInt8) (z y : Nat), out ++ leb z = leb y → z ≤ y
  | [], z, y, h => by
    simp only [List.nil_append] at h
    have inj : ∀ (a b : Nat), leb a = leb b → a = b := by
      intro a
      induction a using Nat.strongRecOn with
      | _ a ih =>
        intro b h
        by_cases ha : a < 128 <;> by_cases hb : b < 128
        · rw [leb_lt ha, leb_lt hb] at h
          injection h with h
          have := congrArg UInt8.toNat h
          rw [UInt8.toNat_ofNat', UInt8.toNat_ofNat'] at this; omega
        · have := congrArg List.length h
          rw [leb_lt ha, leb_ge hb, List.length_cons, List.length_cons] at this
          have := leb_pos (b / 128); simp only [List.length_nil] at *; omega
        · have := congrArg List.length h
          rw [leb_ge ha, leb_lt hb, List.length_cons, List.length_cons] at this
          have := leb_pos (a / 128); simp only [List.length_nil] at *; omega
        · rw [leb_ge ha, leb_ge hb] at h
          injection h with h1 h2
          have e := ih (a / 128) (by omega) (b / 128) h2
          have := congrArg UInt8.toNat h1
          rw [UInt8.toNat_ofNat', UInt8.toNat_ofNat'] at this; omega
    rw [inj z y h]; exact Nat.le_refl _
  | c :: out, z, y, h => by
    by_cases hy : y < 128
    · rw [leb_lt hy, List.cons_append] at h
      injection h with _ h
      have := congrArg List.length h
      have hp := leb_pos z
      simp only [List.length_append, List.length_nil] at this; omega
    · rw [leb_ge hy, List.cons_append] at h
      injection h with _ h
      have := leb_sub_aux out z (y / 128) h
      omega
theorem leb_sub {out : List UInt8} {z y : Nat} (h : out ++ leb z = leb y) : z ≤ y := leb_sub_aux out z y h

/-! ### What was laid is read again -/
theorem rdn_leb : ∀ (z i acc : Nat) (rest : List UInt8), acc < 128 ^ i → i ≤ 9 → acc + z * 128 ^ i < 18446744073709551616 → (0 < i → 0 < z) → rdn i acc (leb z ++ rest) = some (acc + z * 128 ^ i, i + (leb z).length) := by
  intro z
  induction z using Nat.strongRecOn with
  | _ z ih =>
    intro i acc rest hacc hi hlt hpos
    have hp : 0 < 128 ^ i := Nat.pow_pos (by omega)
    have h9 : i = 9 → z ≤ 1 := by
      rintro rfl
      have e : (128:Nat) ^ 9 = 9223372036854775808 := by decide
      rw [e] at hlt; omega
    by_cases hz : z < 128
    · rw [leb_lt hz]
      have ht : (UInt8.ofNat z).toNat = z := by rw [UInt8.toNat_ofNat']; omega
      rw [List.singleton_append, rdn, ht, if_neg (by omega), if_pos hz]
      simp [Nat.mod_eq_of_lt hz]
    · rw [leb_ge hz]
      have ht : (UInt8.ofNat (z % 128 + 128)).toNat = z % 128 + 128 := by rw [UInt8.toNat_ofNat']; omega
      have hi9 : i ≠ 9 := fun h => by have := h9 h; omega
      rw [List.cons_append, rdn, ht, if_neg (by omega), if_neg (by omega)]
      have e1 : (z % 128 + 128) % 128 = z % 128 := by omega
      rw [e1]
      have e2 : acc + z % 128 * 128 ^ i + z / 128 * 128 ^ (i + 1) = acc + z * 128 ^ i := by
        rw [Nat.pow_succ]
        have : z * 128 ^ i = (z % 128 + 128 * (z / 128)) * 128 ^ i := by rw [Nat.mod_add_div]
        rw [this, Nat.add_mul, Nat.mul_comm (128 ^ i) 128, ← Nat.mul_assoc, Nat.mul_comm (z / 128) 128]
        omega
      have e3 : z % 128 * 128 ^ i ≤ 127 * 128 ^ i := Nat.mul_le_mul_right _ (by omega)
      rw [ih (z / 128) (by omega) (i + 1) _ rest (by rw [Nat.pow_succ]; omega) (by omega) (by rw [e2]; exact hlt) (by omega), e2]
      simp; omega
theorem take_num {x : Int} (hx : -9223372036854775808 ≤ x ∧ x ≤ 9223372036854775807) (rest : List UInt8) : take (num x ++ rest) = some (x, (num x).length) := by
  have hz := zig_lt hx
  unfold take num
  rw [rdn_leb (zig x) 0 0 rest (by simp) (by omega) (by simpa using hz) (by omega)]
  simp [zag_zig]
/-- Bytes that are read as a number are those that are laid for it. -/
theorem leb_rdn : ∀ (bs : List UInt8) (i acc : Nat), acc < 128 ^ i → i ≤ 9 → ∀ p, rdn i acc bs = some p → ∃ z, p.1 = acc + z * 128 ^ i ∧ p.2 = i + (leb z).length ∧ leb z = bs.take (leb z).length ∧ (0 < i → 0 < z)
  | [], _, _, _, _, p, h => by simp [rdn] at h
  | c :: r, i, acc, hacc, hi, p, h => by
    have hc := c.toNat_lt
    rw [rdn] at h
    split at h
    · cases h
    · rename_i hE
      split at h
      · rename_i hc1
        injection h with h
        subst h
        refine ⟨c.toNat, by simp [Nat.mod_eq_of_lt hc1], by rw [leb_lt hc1]; simp, ?_, by omega⟩
        rw [leb_lt hc1]; simp
      · rename_i hc1
        have h9 : i ≠ 9 := by omega
        have hp : 0 < 128 ^ i := Nat.pow_pos (by omega)
        have e3 : c.toNat % 128 * 128 ^ i ≤ 127 * 128 ^ i := Nat.mul_le_mul_right _ (by omega)
        obtain ⟨z, h1, h2, h3, h4⟩ := leb_rdn r (i + 1) _ (by rw [Nat.pow_succ]; omega) (by omega) p h
        have hz := h4 (by omega)
        have hge : ¬ (c.toNat % 128 + 128 * z) < 128 := by omega
        have hl : leb (c.toNat % 128 + 128 * z) = c :: leb z := by
          rw [leb_ge hge]
          have e1 : (c.toNat % 128 + 128 * z) % 128 = c.toNat % 128 := by omega
          have e2 : (c.toNat % 128 + 128 * z) / 128 = z := by omega
          have e4 : c.toNat % 128 + 128 = c.toNat := by omega
          rw [e1, e2, e4, UInt8.ofNat_toNat]
        refine ⟨c.toNat % 128 + 128 * z, ?_, ?_, ?_, by omega⟩
        · rw [h1, Nat.pow_succ, Nat.add_mul, Nat.mul_comm (128 ^ i) 128, ← Nat.mul_assoc, Nat.mul_comm z 128]; omega
        · rw [h2, hl, List.length_cons]; omega
        · rw [hl, List.length_cons, List.take_succ_cons, ← h3]
theorem num_take {bs : List UInt8} {x : Int} {k : Nat} (h : take bs = some (x, k)) : num x = bs.take k ∧ k = (num x).length := by
  unfold take at h
  cases hr : rdn 0 0 bs with
  | none => simp [hr] at h
  | some p =>
    obtain ⟨z, h1, h2, h3, _⟩ := leb_rdn bs 0 0 (by simp) (by omega) p hr
    simp [hr] at h
    have hzz : p.1 = z := by simpa using h1
    have hk : p.2 = (leb z).length := by simpa using h2
    have hzig : zig (zag z) = z := by unfold zig zag; split <;> split <;> omega
    have : num x = leb z := by unfold num; rw [← h.1, hzz, hzig]
    rw [this, ← h.2, hk]
    exact ⟨h3, rfl⟩
/-- Unlike numbers have unlike bytes, none the beginning of the other's. -/
theorem num_unlike {x y : Int} (hx : -9223372036854775808 ≤ x ∧ x ≤ 9223372036854775807) (hy : -9223372036854775808 ≤ y ∧ y ≤ 9223372036854775807) :
    (num x).take (min (num x).length (num y).length) = (num y).take (min (num x).length (num y).length) ↔ x = y := by
  constructor
  · intro h
    have key : ∀ {x y : Int}, (-9223372036854775808 ≤ x ∧ x ≤ 9223372036854775807) → (-9223372036854775808 ≤ y ∧ y ≤ 9223372036854775807) → (num x).length ≤ (num y).length → num x = (num y).take (num x).length → x = y := by
      intro x y hx hy hl h
      have h1 := take_num hx ((num y).drop (num x).length)
      rw [h, List.length_take, Nat.min_eq_left hl, List.take_append_drop] at h1
      have h2 := take_num hy []
      rw [List.append_nil] at h2
      rw [h2] at h1
      injection h1 with h1; injection h1 with h1 _; exact h1.symm
    rcases Nat.le_total (num x).length (num y).length with hl | hl
    · rw [Nat.min_eq_left hl, List.take_length] at h
      exact key hx hy hl h
    · rw [Nat.min_eq_right hl, List.take_length] at h
      exact (key hy hx hl h.symm).symm
  · rintro rfl; rfl
end Go.Pack
