/-
  Layer 3's numbers: their bytes as the program makes them.
-/
import Derived.Test.YthljpljbpbkkcaaDoorJournalPure
set_option linter.unusedVariables false
set_option linter.unusedSimpArgs false
namespace Go.Journal
open Go.Sl Go.Pack

theorem shr_u32 (z : Nat) {k : Nat} (hk : k ≤ 32) : bShr .u32 (z : Int) (k : Int) = ((z / 2 ^ k : Nat) : Int) := by
  unfold bShr
  have h : min ((k : Int)).toNat IntKind.u32.bits = k := by
    have : IntKind.u32.bits = 32 := rfl
    rw [this]; omega
  rw [h, Int.fdiv_eq_ediv_of_nonneg _ (by exact Int.le_of_lt (Int.pow_pos (by decide)))]
  simp
theorem wrap8 (z : Nat) : Value.int .u8 (IntKind.u8.wrap (z : Int)) = u8v (UInt8.ofNat z) := by
  have h1 : IntKind.u8.wrap (z : Int) = ((z % 256 : Nat) : Int) := by rw [IntKind.wrap_u8]; omega
  rw [h1]
  unfold u8v
  rw [UInt8.toNat_ofNat']
theorem low_vals (n : Nat) : [Value.int .u8 (IntKind.u8.wrap (n : Int)), .int .u8 (IntKind.u8.wrap (bShr .u32 (n : Int) 8)), .int .u8 (IntKind.u8.wrap (bShr .u32 (n : Int) 16)), .int .u8 (IntKind.u8.wrap (bShr .u32 (n : Int) 24))] = u8s (le4 n) := by
  have h8 := shr_u32 n (k := 8) (by omega)
  have h16 := shr_u32 n (k := 16) (by omega)
  have h24 := shr_u32 n (k := 24) (by omega)
  have e8 : ((8 : Nat) : Int) = 8 := rfl
  have e16 : ((16 : Nat) : Int) = 16 := rfl
  have e24 : ((24 : Nat) : Int) = 24 := rfl
  rw [e8] at h8; rw [e16] at h16; rw [e24] at h24
  rw [h8, h16, h24, wrap8, wrap8, wrap8, wrap8]
  rfl
theorem cel_eq {w0 w : World} {R : List HProp} {b : Nat} {vs vs' : List Value} {e : TypeId} (h : vs = vs') (H : Own w0 (cel b vs e :: R) w) : Own w0 (cel b vs' e :: R) w := h ▸ H
theorem or_add {a b k : Nat} (ha : a < 2 ^ k) : a ||| (b * 2 ^ k) = a + b * 2 ^ k := by
  rw [Nat.mul_comm b, Nat.or_comm, ← Nat.two_pow_add_eq_or_of_lt ha b, Nat.add_comm]
theorem or_u32 {a b k : Nat} (ha : a < 2 ^ k) (hb : a + b * 2 ^ k < 4294967296) : bOr .u32 (a : Int) ((b * 2 ^ k : Nat) : Int) = ((a + b * 2 ^ k : Nat) : Int) := by
  rw [bOr_u rfl, ofInt_natCast, ofInt_natCast]
  show (((BitVec.ofNat 32 a ||| BitVec.ofNat 32 (b * 2 ^ k)).toNat : Nat) : Int) = _
  have h1 : a < 4294967296 := by omega
  have h2 : b * 2 ^ k < 4294967296 := by omega
  rw [BitVec.toNat_or, BitVec.toNat_ofNat, BitVec.toNat_ofNat, Nat.mod_eq_of_lt h1, Nat.mod_eq_of_lt h2, or_add ha]
theorem shl_u32 {b : Nat} (hb : b < 256) {k : Nat} (hk : k ≤ 24) : bShl .u32 (IntKind.u32.wrap (b : Int)) (k : Int) = ((b * 2 ^ k : Nat) : Int) := by
  have h1 : IntKind.u32.wrap (b : Int) = (b : Int) := by rw [IntKind.wrap_u32]; omega
  have h2 : b * 2 ^ k < 4294967296 := by
    have : 2 ^ k ≤ 2 ^ 24 := Nat.pow_le_pow_right (by omega) hk
    have h3 : b * 2 ^ k ≤ 255 * 2 ^ 24 := Nat.mul_le_mul (by omega) this
    omega
  rw [h1]
  unfold bShl
  have h : min ((k : Int)).toNat IntKind.u32.bits = k := by
    have : IntKind.u32.bits = 32 := rfl
    rw [this]; omega
  rw [h]
  have h3 : (b : Int) * 2 ^ k = ((b * 2 ^ k : Nat) : Int) := by simp
  rw [h3, IntKind.wrap_u32]
  omega
theorem number_raw (b : List UInt8) : bOr .u32 (bOr .u32 (bOr .u32 (IntKind.u32.wrap ((b.getD 0 0).toNat : Int)) (bShl .u32 (IntKind.u32.wrap ((b.getD 1 0).toNat : Int)) 8)) (bShl .u32 (IntKind.u32.wrap ((b.getD 2 0).toNat : Int)) 16)) (bShl .u32 (IntKind.u32.wrap ((b.getD 3 0).toNat : Int)) 24) = (num4 b : Int) := by
  have h : ∀ i : Nat, (b.getD i 0).toNat < 256 := fun i => (b.getD i 0).toNat_lt
  have h0 := h 0; have h1 := h 1; have h2 := h 2; have h3 := h 3
  have e1 := shl_u32 h1 (k := 8) (by omega)
  have e2 := shl_u32 h2 (k := 16) (by omega)
  have e3 := shl_u32 h3 (k := 24) (by omega)
  have e8 : ((8 : Nat) : Int) = 8 := rfl
  have e16 : ((16 : Nat) : Int) = 16 := rfl
  have e24 : ((24 : Nat) : Int) = 24 := rfl
  rw [e8] at e1; rw [e16] at e2; rw [e24] at e3
  have e0 : IntKind.u32.wrap ((b.getD 0 0).toNat : Int) = ((b.getD 0 0).toNat : Int) := by rw [IntKind.wrap_u32]; omega
  rw [e0, e1, e2, e3, or_u32 (by omega) (by omega), or_u32 (by omega) (by omega), or_u32 (by omega) (by omega)]
  unfold num4
  congr 1
  omega
end Go.Journal
