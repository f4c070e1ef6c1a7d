/-
  'Am', part 22: the bit operators at numbers that are not below 0.
-/
import Derived.Test.YtfgojdnakidifaaAmLaws2
set_option linter.unusedSimpArgs false
set_option linter.unusedVariables false
namespace Go.Am

theorem ofInt_nat {w a : Nat} (h : a < 2 ^ w) : (BitVec.ofInt w (a : Int)).toNat = a := by
  rw [BitVec.ofInt_natCast, BitVec.toNat_ofNat]; exact Nat.mod_eq_of_lt h
def unsig : IntKind → Bool
  | .u8 | .u16 | .u32 | .u64 => true
  | _ => false
theorem wrap_uns {k : IntKind} (hk : unsig k = true) {a : Nat} (h : a < 2 ^ k.bits) : k.wrap (a : Int) = a := by
  cases k <;> simp [unsig] at hk <;> simp [IntKind.wrap, IntKind.bits, IntKind.signed] at * <;> omega
theorem band_u {k : IntKind} (hk : unsig k = true) {a b : Nat} (ha : a < 2 ^ k.bits) (hb : b < 2 ^ k.bits) : bitsA .and k a b = ((a &&& b : Nat) : Int) := by
  simp only [bitsA, BitVec.toNat_and, ofInt_nat ha, ofInt_nat hb]
  exact wrap_uns hk (Nat.and_lt_two_pow _ hb)
theorem bor_u {k : IntKind} (hk : unsig k = true) {a b : Nat} (ha : a < 2 ^ k.bits) (hb : b < 2 ^ k.bits) : bitsA .or k a b = ((a ||| b : Nat) : Int) := by
  simp only [bitsA, BitVec.toNat_or, ofInt_nat ha, ofInt_nat hb]
  exact wrap_uns hk (Nat.or_lt_two_pow ha hb)
theorem bxor_u {k : IntKind} (hk : unsig k = true) {a b : Nat} (ha : a < 2 ^ k.bits) (hb : b < 2 ^ k.bits) : bitsA .xor k a b = ((a ^^^ b : Nat) : Int) := by
  simp only [bitsA, BitVec.toNat_xor, ofInt_nat ha, ofInt_nat hb]
  exact wrap_uns hk (Nat.xor_lt_two_pow ha hb)
theorem band32 {a b : Nat} (ha : a < 4294967296) (hb : b < 4294967296) : bitsA .and .u32 a b = ((a &&& b : Nat) : Int) := band_u rfl ha hb
theorem bor32 {a b : Nat} (ha : a < 4294967296) (hb : b < 4294967296) : bitsA .or .u32 a b = ((a ||| b : Nat) : Int) := bor_u rfl ha hb
theorem bxor32 {a b : Nat} (ha : a < 4294967296) (hb : b < 4294967296) : bitsA .xor .u32 a b = ((a ^^^ b : Nat) : Int) := bxor_u rfl ha hb
theorem band64 {a b : Nat} (ha : a < 18446744073709551616) (hb : b < 18446744073709551616) : bitsA .and .u64 a b = ((a &&& b : Nat) : Int) := band_u rfl ha hb
theorem bor64 {a b : Nat} (ha : a < 18446744073709551616) (hb : b < 18446744073709551616) : bitsA .or .u64 a b = ((a ||| b : Nat) : Int) := bor_u rfl ha hb
theorem bxor8 {a b : Nat} (ha : a < 256) (hb : b < 256) : bitsA .xor .u8 a b = ((a ^^^ b : Nat) : Int) := bxor_u rfl ha hb
theorem bor8 {a b : Nat} (ha : a < 256) (hb : b < 256) : bitsA .or .u8 a b = ((a ||| b : Nat) : Int) := bor_u rfl ha hb
theorem wrap_i64n {a : Nat} (h : a < 9223372036854775808) : IntKind.i64.wrap (a : Int) = a := in_i64 (by omega) (by omega)
theorem bor_i64 {a b : Nat} (ha : a < 9223372036854775808) (hb : b < 9223372036854775808) : bitsA .or .i64 a b = ((a ||| b : Nat) : Int) := by
  show IntKind.i64.wrap ((BitVec.ofInt 64 (a : Int) ||| BitVec.ofInt 64 (b : Int)).toNat : Int) = _
  rw [BitVec.toNat_or, ofInt_nat (by omega), ofInt_nat (by omega)]
  exact wrap_i64n (Nat.or_lt_two_pow (n := 63) ha hb)
theorem band_i64 {a b : Nat} (ha : a < 9223372036854775808) (hb : b < 9223372036854775808) : bitsA .and .i64 a b = ((a &&& b : Nat) : Int) := by
  show IntKind.i64.wrap ((BitVec.ofInt 64 (a : Int) &&& BitVec.ofInt 64 (b : Int)).toNat : Int) = _
  rw [BitVec.toNat_and, ofInt_nat (by omega), ofInt_nat (by omega)]
  exact wrap_i64n (Nat.and_lt_two_pow (n := 63) a hb)
/-- ^x -/
theorem bnot32 {a : Nat} (ha : a < 4294967296) : bitsA .xor .u32 4294967295 a = ((4294967295 - a : Nat) : Int) := by
  have h := bxor32 (a := 4294967295) (b := a) (by decide) ha
  have e : (4294967295 : Nat) ^^^ a = 4294967295 - a := by
    apply Nat.eq_of_testBit_eq
    intro i
    have h1 : (4294967295 : Nat) - a = 2 ^ 32 - (a + 1) := by omega
    rw [h1, Nat.testBit_two_pow_sub_succ (by omega), Nat.testBit_xor, show (4294967295 : Nat) = 2 ^ 32 - 1 from rfl, Nat.testBit_two_pow_sub_one]
    by_cases hi : i < 32
    · simp [hi]
    · have hb : a.testBit i = false := Nat.testBit_lt_two_pow (Nat.lt_of_lt_of_le ha (Nat.pow_le_pow_right (show 0 < 2 by decide) (show 32 ≤ i by omega)))
      simp [hi, hb]
  rw [e] at h
  exact h
theorem top_bit {n : Nat} (h : n < 4294967296) : n / 2147483648 = (n.testBit 31).toNat := by
  rw [Nat.testBit_eq_decide_div_mod_eq]
  have : n / 2 ^ 31 < 2 := by rw [show (2 : Nat) ^ 31 = 2147483648 from rfl]; omega
  rw [show (2 : Nat) ^ 31 = 2147483648 from rfl] at *
  by_cases h1 : n / 2147483648 = 1
  · simp [h1]
  · have : n / 2147483648 = 0 := by omega
    simp [this]
theorem testBit31 {n : Nat} (h : n < 4294967296) : n.testBit 31 = decide (2147483648 ≤ n) := by
  rw [Nat.testBit_eq_decide_div_mod_eq, show (2 : Nat) ^ 31 = 2147483648 from rfl]
  by_cases h1 : 2147483648 ≤ n
  · have : n / 2147483648 = 1 := by omega
    simp [h1, this]
  · have : n / 2147483648 = 0 := by omega
    simp [h1, this]
/-- The borrow of a difference of 32 bits. -/
theorem borrow32 {x y b : Nat} (hx : x < 4294967296) (hy : y < 4294967296) (hb : b ≤ 1) :
    (((4294967295 - x) &&& y) ||| ((4294967295 - (x ^^^ y)) &&& ((x + 8589934592 - y - b) % 4294967296))) / 2147483648 = if x < y + b then 1 else 0 := by
  have hxy : x ^^^ y < 4294967296 := Nat.xor_lt_two_pow (n := 32) hx hy
  have hd : (x + 8589934592 - y - b) % 4294967296 < 4294967296 := Nat.mod_lt _ (by decide)
  rw [top_bit (Nat.or_lt_two_pow (n := 32) (Nat.and_lt_two_pow _ hy) (Nat.and_lt_two_pow _ hd))]
  rw [Nat.testBit_or, Nat.testBit_and, Nat.testBit_and]
  have n1 : ∀ a, a < 4294967296 → (4294967295 - a).testBit 31 = !a.testBit 31 := fun a ha => by
    rw [testBit31 (by omega), testBit31 ha]
    by_cases h : 2147483648 ≤ a
    · simp [h]; omega
    · simp [h]; omega
  rw [n1 x hx, n1 _ hxy, Nat.testBit_xor, testBit31 hx, testBit31 hy, testBit31 hd]
  by_cases h1 : 2147483648 ≤ x <;> by_cases h2 : 2147483648 ≤ y <;> by_cases h3 : 2147483648 ≤ (x + 8589934592 - y - b) % 4294967296 <;> by_cases h4 : x < y + b <;> simp [h1, h2, h3, h4] <;> omega
end Go.Am
