/-
  LimbA: Ty, Limb1, Limb2, Limb3, Limb4, Limb5, Limb6, Limb7, Limb8, Limb9, Limb10, Limb11, Limb12, Limb13
-/
import Derived.Test.YtgefihgogfkjoaaAmC
import Derived.Test.YtgefihgogfkjoaaProg
import Derived.KernelRfl
set_option linter.unusedSimpArgs false
set_option linter.unusedVariables false
/-! The types that the contracts meet, by their numbers in this translation. -/
namespace Go.Proofs.Ytgefihgogfkjoaa
open Go.Am
theorem numL_zero : numL 0 = List.replicate 8 (.int .u32 0) := by
  have h : numL 0 = famL (fun _ => .int .u32 0) 8 := famL_congr fun i _ => by simp [limbA, limb_def]
  rw [h]
  rfl
theorem mixed : Try.prog.follows .mixedOrders = true := by kernel_rfl
theorem tyInt : tyI Try.prog 3 = some ⟨1, 8, false, [.int .i64 0], .int .i64⟩ := by kernel_rfl
theorem tyBool : tyI Try.prog 4 = some ⟨1, 1, false, [.bool false], .bool⟩ := by kernel_rfl
theorem tyU8 : tyI Try.prog 5 = some ⟨1, 1, false, [.int .u8 0], .int .u8⟩ := by kernel_rfl
theorem tyU32 : tyI Try.prog 25 = some ⟨1, 4, false, [.int .u32 0], .int .u32⟩ := by kernel_rfl
theorem tyU64 : tyI Try.prog 120 = some ⟨1, 8, false, [.int .u64 0], .int .u64⟩ := by kernel_rfl
theorem tyUint : tyI Try.prog 99 = some ⟨1, 8, false, [.int .u64 0], .int .u64⟩ := by kernel_rfl
theorem tyStr : tyI Try.prog 9 = some ⟨1, 16, false, [.str ByteArray.empty], .str⟩ := by kernel_rfl
theorem tyNum : tyI Try.prog 27 = some ⟨8, 32, true, numL 0, .array 8 25 1 false⟩ := by rw [numL_zero]; kernel_rfl
theorem tyWide : tyI Try.prog 119 = some ⟨16, 64, true, famL (fun _ => .int .u32 0) 16, .array 16 25 1 false⟩ := by kernel_rfl
theorem tyBytes : tyI Try.prog 22 = some ⟨1, 24, false, [.nils], .slice 5 1 false 1⟩ := by kernel_rfl
theorem tyInts : tyI Try.prog 56 = some ⟨1, 24, false, [.nils], .slice 3 1 false 8⟩ := by kernel_rfl
theorem tyU32s : tyI Try.prog 121 = some ⟨1, 24, false, [.nils], .slice 25 1 false 4⟩ := by kernel_rfl
theorem eqkNum : eqK Try.prog 27 = some (List.replicate 8 (.i .u32)) := by kernel_rfl
theorem isBool : isBoolT Try.prog 4 = true := by kernel_rfl
end Go.Proofs.Ytgefihgogfkjoaa

/-! Contracts of limb: sums, differences, order, bits. -/
namespace Go.Proofs.Ytgefihgogfkjoaa
open Go.Am

/-- 2^256 -/
def W : Nat := 2 ^ 256
theorem W_pos : 0 < W := Nat.two_pow_pos _
theorem W_split {i : Nat} (h : i < 8) : W = 2 ^ (32 * i) * (4294967296 * 2 ^ (32 * (7 - i))) := by
  unfold W
  rw [show (4294967296 : Nat) = 2 ^ 32 from rfl, ← Nat.pow_add, ← Nat.pow_add]
  congr 1
  omega
theorem limb_mod {N i : Nat} (h : i < 8) : limb (N % W) i = limb N i := by
  simp only [limb_def]
  have hW := W_split h
  have hp : 0 < 2 ^ (32 * i) := Nat.two_pow_pos _
  rw [hW, Nat.mod_mul_right_div_self, show (2 : Nat) ^ 32 = 4294967296 from rfl]
  exact Nat.mod_mul_right_mod _ _ _
theorem num_mod (N : Nat) : num (N % W) = num N := by
  unfold num numL
  congr 1
  exact famL_congr fun i hi => by rw [limbA, limbA, limb_mod hi]
theorem limb_addW {N i : Nat} (h : i < 8) : limb (N + W) i = limb N i := by
  rw [← limb_mod h, Nat.add_mod_right, limb_mod h]
theorem carry_W {A B : Nat} (hA : A < W) (hB : B < W) : carry A B 8 = (A + B) / W := by
  unfold carry
  rw [show 2 ^ (32 * 8) = W from rfl, Nat.mod_eq_of_lt hA, Nat.mod_eq_of_lt hB]

theorem add32 (x y c : Nat) (hx : x < 4294967296) (hy : y < 4294967296) (hc : c < 4294967296) : ASpec Try.prog 79 [.int .u32 x, .int .u32 y, .int .u32 c] (.tup [.int .u32 ((x + y + c) % 4294967296 : Nat), .int .u32 ((x + y + c) / 4294967296 : Nat)]) := by
  refine ASpec.start 1000 Try.func79 (fn := Try.f79) rfl (by decide) mixed (by kernel_rfl) (by simp) ?_
  simp (disch := omega) [ini, upd_eq, tyU32, tyU64, in_u64, in_u32, binA_shr, w_u32, resA_L Try.results79]
theorem add32' (A B i : Nat) : ASpec Try.prog 79 [limbA A i, limbA B i, .int .u32 (carry A B i : Nat)] (.tup [limbA (A + B) i, .int .u32 (carry A B (i + 1) : Nat)]) := by
  have h := add32 (limb A i) (limb B i) (carry A B i) (limb_lt _ _) (limb_lt _ _) (by have := carry_le A B i; omega)
  rw [carry_step] at h
  have h1 := limb_lt (A + B) i
  rwa [show (limb (A + B) i + 4294967296 * carry A B (i + 1)) % 4294967296 = limb (A + B) i by omega, show (limb (A + B) i + 4294967296 * carry A B (i + 1)) / 4294967296 = carry A B (i + 1) by omega] at h

theorem add0 (A B : Nat) : ASpec Try.prog 46 [num A, num B] (.tup [num (A + B), .int .u32 (carry A B 8 : Nat)]) := by
  refine ASpec.start 1000 Try.func46 (fn := Try.f46) rfl (by decide) mixed (by kernel_rfl) (by simp) ?_
  simp (disch := omega) [ini, upd_eq, tyNum]
  refine goT_count (fun i => [(2, .ptr 0 0), (3, .ptr 1 0), (4, .ptr 2 0), (6, .int .u32 (carry A B i : Nat)), (8, .int .i64 (i : Nat))]) (fun i => [(0, ⟨mixN (A + B) A i, true⟩), (1, ⟨numL B, true⟩), (2, ⟨numL 0, true⟩)]) 3 8 ?_ ?_ ?_
  · intro i hi IH
    refine goT_round mixed 100 ?_
    simp (disch := omega) [st_eq, upd_eq, tyU32, tyNum, show (i : Int) < 8 by omega, mixN_get hi, numL_get hi]
    refine callT_of (add32' A B i) rfl rfl ?_
    simp (disch := omega) [upd_eq, tyU32, tyNum, show (i : Int) < 8 by omega, limbA_def, store_int, hi, in_i64]
    refine IH _ ⟨?_, ?_⟩
    · simp [upd_eq, refsLt]
    · simp [upd_eq]
      exact mixN_set rfl
  · refine goT_round mixed 100 ?_
    simp (disch := omega) [st_eq, upd_eq, tyNum, resA_L Try.results46]
  · constructor
    · simp [upd_eq, refsLt, carry_zero]
    · simp [upd_eq]

theorem sub32 (x y b : Nat) (hx : x < 4294967296) (hy : y < 4294967296) (hb : b ≤ 1) :
    ASpec Try.prog 86 [.int .u32 x, .int .u32 y, .int .u32 b] (.tup [.int .u32 ((x + 8589934592 - y - b) % 4294967296 : Nat), .int .u32 (if x < y + b then 1 else 0 : Nat)]) := by
  refine ASpec.start 1000 Try.func86 (fn := Try.f86) rfl (by decide) mixed (by kernel_rfl) (by simp) ?_
  have hxy : x ^^^ y < 4294967296 := Nat.xor_lt_two_pow (n := 32) hx hy
  have hn : (4294967295 - x) &&& y < 4294967296 := Nat.and_lt_two_pow (n := 32) _ hy
  have hbo := borrow32 hx hy hb
  have hd : (x + 8589934592 - y - b) % 4294967296 < 4294967296 := Nat.mod_lt _ (by decide)
  have e1 : (((x : Int) - y) % 4294967296 - b) % 4294967296 = (((x + 8589934592 - y - b) % 4294967296 : Nat) : Int) := by omega
  rw [← hbo]
  generalize (x + 8589934592 - y - b) % 4294967296 = d at *
  have hm : (4294967295 - (x ^^^ y)) &&& d < 4294967296 := Nat.and_lt_two_pow (n := 32) _ hd
  simp [ini, upd_eq, w_u32, e1, IntKind.signed, IntKind.max, bnot32 hx, band32 (show 4294967295 - x < 4294967296 by omega) hy, bxor32 hx hy, bnot32 hxy, band32 (show 4294967295 - (x ^^^ y) < 4294967296 by omega) hd,
    bor32 hn hm, binA_shr, resA_L Try.results86]

theorem add (A B : Nat) (hA : A < W) (hB : B < W) : ASpec Try.prog 46 [num A, num B] (.tup [num ((A + B) % W), .int .u32 ((A + B) / W : Nat)]) := by
  rw [num_mod, ← carry_W hA hB]; exact add0 A B

theorem sub32' (A B D i : Nat) (hi : i < 8) (h : D + B = A + W) : ASpec Try.prog 86 [limbA A i, limbA B i, .int .u32 (carry D B i : Nat)] (.tup [limbA D i, .int .u32 (carry D B (i + 1) : Nat)]) := by
  have hs := carry_step D B i
  rw [h, limb_addW hi] at hs
  have h0 := carry_le D B i
  have h1 := carry_le D B (i + 1)
  have h2 := limb_lt A i
  have h3 := limb_lt B i
  have h4 := limb_lt D i
  have hq := sub32 (limb A i) (limb B i) (carry D B i) h2 h3 h0
  rw [show (limb A i + 8589934592 - limb B i - carry D B i) % 4294967296 = limb D i by omega,
    show (if limb A i < limb B i + carry D B i then 1 else 0 : Nat) = carry D B (i + 1) by split <;> omega] at hq
  exact hq

theorem sub0 (A B D : Nat) (h : D + B = A + W) : ASpec Try.prog 57 [num A, num B] (.tup [num D, .int .u32 (carry D B 8 : Nat)]) := by
  refine ASpec.start 1000 Try.func57 (fn := Try.f57) rfl (by decide) mixed (by kernel_rfl) (by simp) ?_
  simp (disch := omega) [ini, upd_eq, tyNum]
  refine goT_count (fun i => [(2, .ptr 0 0), (3, .ptr 1 0), (4, .ptr 2 0), (6, .int .u32 (carry D B i : Nat)), (8, .int .i64 (i : Nat))]) (fun i => [(0, ⟨mixN D A i, true⟩), (1, ⟨numL B, true⟩), (2, ⟨numL 0, true⟩)]) 3 8 ?_ ?_ ?_
  · intro i hi IH
    refine goT_round mixed 100 ?_
    simp (disch := omega) [st_eq, upd_eq, tyU32, tyNum, show (i : Int) < 8 by omega, mixN_get hi, numL_get hi]
    refine callT_of (sub32' A B D i hi h) rfl rfl ?_
    simp (disch := omega) [upd_eq, tyU32, tyNum, show (i : Int) < 8 by omega, limbA_def, store_int, hi, in_i64]
    refine IH _ ⟨?_, ?_⟩
    · simp [upd_eq, refsLt]
    · simp [upd_eq]
      exact mixN_set rfl
  · refine goT_round mixed 100 ?_
    simp (disch := omega) [st_eq, upd_eq, tyNum, resA_L Try.results57]
  · constructor
    · simp [upd_eq, refsLt, carry_zero]
    · simp [upd_eq]

theorem sub_num {A B : Nat} (hA : A < W) (hB : B < W) : carry (A + W - B) B 8 = if A < B then 1 else 0 := by
  unfold carry
  rw [show 2 ^ (32 * 8) = W from rfl, Nat.mod_eq_of_lt hB]
  by_cases h : A < B
  · rw [if_pos h, Nat.mod_eq_of_lt (by omega), show A + W - B + B = A + W by omega, Nat.add_div_right _ W_pos, Nat.div_eq_of_lt hA]
  · rw [if_neg h, show A + W - B = A - B + W by omega, Nat.add_mod_right, Nat.mod_eq_of_lt (by omega), Nat.div_eq_of_lt (by omega)]
theorem sub (A B : Nat) (hA : A < W) (hB : B < W) : ASpec Try.prog 57 [num A, num B] (.tup [num ((A + W - B) % W), .int .u32 (if A < B then 1 else 0 : Nat)]) := by
  rw [num_mod, ← sub_num hA hB]; exact sub0 A B _ (by omega)

/-- -1, 0, 1 -/
def cmpZ (a b : Nat) : Int := if a < b then -1 else if b < a then 1 else 0
theorem order (x y : Nat) : ASpec Try.prog 85 [.int .u32 x, .int .u32 y] (.int .i64 (cmpZ x y)) := by
  refine ASpec.start 1000 Try.func85 (fn := Try.f85) rfl (by decide) mixed (by kernel_rfl) (by simp) ?_
  unfold cmpZ
  by_cases h1 : x < y
  · simp [ini, upd_eq, h1, resA_L Try.results85]
  · by_cases h2 : y < x
    · simp [ini, upd_eq, h1, h2, resA_L Try.results85]
    · simp [ini, upd_eq, h1, h2, resA_L Try.results85]

/-- The limbs from i on. -/
theorem div_limb (A i : Nat) : A / 2 ^ (32 * i) = limb A i + 4294967296 * (A / 2 ^ (32 * (i + 1))) := by
  simp only [limb_def]
  rw [show 32 * (i + 1) = 32 * i + 32 by omega, Nat.pow_add, ← Nat.div_div_eq_div_mul, show (2 : Nat) ^ 32 = 4294967296 from rfl]
  omega
theorem cmp_down (A B i : Nat) (h : A / 2 ^ (32 * (i + 1)) = B / 2 ^ (32 * (i + 1))) (hl : limb A i = limb B i) : A / 2 ^ (32 * i) = B / 2 ^ (32 * i) := by
  rw [div_limb A i, div_limb B i, h, hl]
theorem cmp_here (A B i : Nat) (h : A / 2 ^ (32 * (i + 1)) = B / 2 ^ (32 * (i + 1))) (hl : limb A i ≠ limb B i) : cmpZ A B = cmpZ (limb A i) (limb B i) := by
  have h1 := div_limb A i
  have h2 := div_limb B i
  have key : ∀ x y : Nat, x / 2 ^ (32 * i) < y / 2 ^ (32 * i) → x < y := fun x y hxy => by
    rcases Nat.lt_or_ge x y with h | h
    · exact h
    · have := Nat.div_le_div_right (c := 2 ^ (32 * i)) h; omega
  unfold cmpZ
  rcases Nat.lt_or_gt_of_ne hl with h3 | h3
  · have := key A B (by omega)
    rw [if_pos this, if_pos h3]
  · have := key B A (by omega)
    rw [if_neg (by omega), if_pos this, if_neg (by omega), if_pos h3]
theorem W_top {A : Nat} (hA : A < W) : A / 2 ^ (32 * 8) = 0 := Nat.div_eq_of_lt hA

theorem cmp (A B : Nat) (hA : A < W) (hB : B < W) : ASpec Try.prog 56 [num A, num B] (.int .i64 (cmpZ A B)) := by
  refine ASpec.start 1000 Try.func56 (fn := Try.f56) rfl (by decide) mixed (by kernel_rfl) (by simp) ?_
  simp (disch := omega) [ini, upd_eq]
  refine goT_down (X := Nat) (fun i => i) (fun i => [(2, .ptr 0 0), (3, .ptr 1 0), (5, .int .i64 ((i : Int) - 1))]) (fun _ => [(0, ⟨numL A, true⟩), (1, ⟨numL B, true⟩)]) 2
    (fun i => i ≤ 8 ∧ A / 2 ^ (32 * i) = B / 2 ^ (32 * i)) ?_ 8 ⟨Nat.le_refl _, by rw [W_top hA, W_top hB]⟩ ⟨by simp [upd_eq, refsLt], by simp [upd_eq]⟩
  rintro i ⟨hi, hd⟩ IH
  refine goT_round mixed 100 ?_
  cases i with
  | zero =>
    have : A = B := by simpa using hd
    subst this
    simp [st_eq, upd_eq, cmpZ, resA_L Try.results56]
  | succ i =>
    have hi8 : i < 8 := by omega
    simp (disch := omega) [st_eq, upd_eq, tyU32, tyNum, show (i : Int) < 8 by omega, numL_get hi8]
    refine callT_of (order (limb A i) (limb B i)) rfl rfl ?_
    by_cases hl : limb A i = limb B i
    · have h0 : cmpZ (limb A i) (limb B i) = 0 := by simp [cmpZ, hl]
      simp (disch := omega) [upd_eq, h0, in_i64]
      exact IH i _ ⟨by omega, cmp_down A B i hd hl⟩ (by omega) ⟨by simp [upd_eq, refsLt], by simp [upd_eq]⟩
    · have h0 : cmpZ (limb A i) (limb B i) ≠ 0 := by unfold cmpZ; repeat' split <;> omega
      have hc := cmp_here A B i hd hl
      have h0' : (cmpZ (limb A i) (limb B i) != 0) = true := by rw [bne_iff_ne]; exact h0
      simp (disch := omega) [upd_eq, h0', resA_L Try.results56, hc]
end Go.Proofs.Ytgefihgogfkjoaa

/-! Contracts of limb: a number of an int, a bit, a pick, how many bits. -/
namespace Go.Proofs.Ytgefihgogfkjoaa
open Go.Am

theorem limb_big {N i : Nat} (h : N < 2 ^ 64) (hi : 2 ≤ i) : limb N i = 0 := by
  rw [limb_def]
  have h1 : 2 ^ 64 ≤ 2 ^ (32 * i) := Nat.pow_le_pow_right (by decide) (by omega)
  rw [Nat.div_eq_of_lt (by omega)]
theorem num_set2 {N : Nat} {a b : Int} (h : N < 2 ^ 64) (ha : a = (N : Int) % 4294967296) (hb : b = (N : Int) / 4294967296 % 4294967296) :
    ((numL 0).set 0 (.int .u32 a)).set 1 (.int .u32 b) = numL N := by
  subst ha hb
  unfold numL
  rw [famL_set, famL_set]
  refine famL_congr fun j _ => ?_
  unfold upd
  by_cases h1 : j = 1
  · subst h1
    simp [limbA, limb_def]
  · by_cases h2 : j = 0
    · subst h2; simp [limbA, limb_def]
    · simp [h1, h2, limbA, limb_big h (show 2 ≤ j by omega), show limb 0 j = 0 by simp [limb_def]]

theorem from_ (n : Int) (h0 : -9223372036854775808 ≤ n) (h1 : n < 9223372036854775808) : ASpec Try.prog 49 [.int .i64 n] (num n.toNat) := by
  refine ASpec.start 1000 Try.func49 (fn := Try.f49) rfl (by decide) mixed (by kernel_rfl) (by simp) ?_
  by_cases hn : n < 0
  · simp [ini, upd_eq, tyNum, hn, show n.toNat = 0 by omega, resA_L Try.results49]
  · obtain ⟨m, rfl⟩ : ∃ m : Nat, n = m := ⟨n.toNat, by omega⟩
    have e := num_set2 (N := m) (by omega) rfl rfl
    simp (disch := omega) [ini, upd_eq, tyNum, tyU32, tyInt, hn, w_u32, binA_shr, store_int, e, segA_all, resA_L Try.results49]

theorem rfrom (n : Int) (h0 : -9223372036854775808 ≤ n) (h1 : n < 9223372036854775808) : ASpec Try.prog 26 [.int .i64 n] (num n.toNat) := by
  refine ASpec.start 1000 Try.func26 (fn := Try.f26) rfl (by decide) mixed (by kernel_rfl) (by simp) ?_
  by_cases hn : 0 < n
  · obtain ⟨m, rfl⟩ : ∃ m : Nat, n = m := ⟨n.toNat, by omega⟩
    have e := num_set2 (N := m) (by omega) rfl rfl
    simp (disch := omega) [ini, upd_eq, tyNum, tyU32, tyInt, show 0 < m by omega, w_u32, binA_shr, store_int, e, resA_L Try.results26]
  · simp [ini, upd_eq, tyNum, hn, show n.toNat = 0 by omega, resA_L Try.results26]

/-- bit k -/
def bitN (A k : Nat) : Nat := A / 2 ^ k % 2
theorem bitN_limb (A k : Nat) : limb A (k / 32) / 2 ^ (k % 32) % 2 = bitN A k := by
  rw [limb_def]
  unfold bitN
  rw [← Nat.toNat_testBit, ← Nat.toNat_testBit, Nat.testBit_mod_two_pow, Nat.testBit_div_two_pow, show k % 32 + 32 * (k / 32) = k by omega]
  simp [show k % 32 < 32 by omega]
theorem bit_eq (A k : Nat) : bitsA .and .u32 ((limb A (k / 32) : Int) / 2 ^ (k % 32)) 1 = (bitN A k : Int) := by
  have h := limb_lt A (k / 32)
  have h2 : limb A (k / 32) / 2 ^ (k % 32) < 4294967296 := Nat.lt_of_le_of_lt (Nat.div_le_self _ _) h
  have := band32 h2 (show 1 < 4294967296 by decide)
  rw [Nat.and_one_is_mod, bitN_limb] at this
  rw [← this]
  congr 1
theorem bit (A k : Nat) (hk : k < 256) : ASpec Try.prog 87 [num A, .int .i64 (k : Nat)] (.int .u32 (bitN A k : Nat)) := by
  refine ASpec.start 1000 Try.func87 (fn := Try.f87) rfl (by decide) mixed (by kernel_rfl) (by simp) ?_
  have hi : k / 32 < 8 := by omega
  have e1 : ((k : Int) / 32).toNat = k / 32 := by omega
  have e2 : ((k : Int) % 32).toNat = k % 32 := by omega
  have e3 : min (k % 32) 32 = k % 32 := by omega
  simp (disch := omega) [ini, upd_eq, tyNum, tyU32, tyInt, in_i64, binA_quo, binA_rem, binA_shr, e1, e2, e3, numL_get hi, limbA_def, bit_eq, show (k : Int) / 32 < 8 by omega, show 0 ≤ (k : Int) / 32 by omega, resA_L Try.results87]
theorem rbit (A k : Nat) (hk : k < 256) : ASpec Try.prog 89 [num A, .int .i64 (k : Nat)] (.int .u32 (bitN A k : Nat)) := by
  refine ASpec.start 1000 Try.func89 (fn := Try.f89) rfl (by decide) mixed (by kernel_rfl) (by simp) ?_
  have hi : k / 32 < 8 := by omega
  have e1 : ((k : Int) / 32).toNat = k / 32 := by omega
  have e2 : ((k : Int) % 32).toNat = k % 32 := by omega
  have e3 : min (k % 32) 32 = k % 32 := by omega
  simp (disch := omega) [ini, upd_eq, tyNum, tyU32, tyInt, tyUint, in_i64, in_u64, binA_quo, binA_rem, binA_shr, e1, e2, e3, numL_get hi, limbA_def, bit_eq, show (k : Int) / 32 < 8 by omega, show 0 ≤ (k : Int) / 32 by omega, resA_L Try.results89]

theorem mask_all {x : Nat} (h : x < 4294967296) : x &&& 4294967295 = x := by
  rw [show (4294967295 : Nat) = 2 ^ 32 - 1 from rfl, Nat.and_two_pow_sub_one_eq_mod]; omega
theorem xor_xor (a b : Nat) : b ^^^ (a ^^^ b) = a := by
  rw [Nat.xor_comm a b, ← Nat.xor_assoc, Nat.xor_self, Nat.zero_xor]
theorem pick (y : Nat) (A B : Nat) : ASpec Try.prog 58 [.int .u32 (y : Nat), num A, num B] (num (if y = 0 then B else A)) := by
  refine ASpec.start 1000 Try.func58 (fn := Try.f58) rfl (by decide) mixed (by kernel_rfl) (by simp) ?_
  simp (disch := omega) [ini, upd_eq, tyNum, tyU32]
  refine callT_of (order y 0) rfl rfl ?_
  have e : ∃ m : Nat, (m = if y = 0 then 0 else 4294967295) ∧ IntKind.u32.wrap (IntKind.i64.wrap (-cmpZ y 0)) = m := by
    unfold cmpZ
    by_cases h : y = 0
    · exact ⟨0, by simp [h], by subst h; decide⟩
    · exact ⟨4294967295, by simp [h], by rw [if_neg (by omega), if_pos (by omega)]; decide⟩
  obtain ⟨m, hm, e⟩ := e
  simp (disch := omega) [upd_eq]
  refine goT_count (fun i => [(4, .ptr 0 0), (5, .ptr 1 0), (6, .ptr 2 0), (7, .int .i64 (IntKind.i64.wrap (-cmpZ y 0))), (12, .int .i64 (i : Nat))]) (fun i => [(0, ⟨mixN (if y = 0 then B else A) A i, true⟩), (1, ⟨numL B, true⟩), (2, ⟨numL 0, true⟩)]) 3 8 ?_ ?_ ?_
  · intro i hi IH
    refine goT_round mixed 100 ?_
    have ha := limb_lt A i
    have hb := limb_lt B i
    have hx : limb A i ^^^ limb B i < 4294967296 := Nat.xor_lt_two_pow (n := 32) ha hb
    have hm' : m < 4294967296 := by rw [hm]; split <;> omega
    have hx' : (limb A i ^^^ limb B i) &&& m < 4294967296 := Nat.and_lt_two_pow (n := 32) _ hm'
    simp (disch := omega) [st_eq, upd_eq, tyU32, tyNum, tyInt, show (i : Int) < 8 by omega, mixN_get hi, numL_get hi, hi, limbA_def, e, bxor32 ha hb, band32 hx hm', bxor32 hb hx', store_int, in_i64]
    refine IH _ ⟨?_, ?_⟩
    · simp [upd_eq, refsLt]
    · simp [upd_eq]
      refine mixN_set ?_
      subst hm
      by_cases h : y = 0
      · simp [h, limbA]
      · simp [h, limbA, mask_all hx, xor_xor]
  · refine goT_round mixed 100 ?_
    simp (disch := omega) [st_eq, upd_eq, tyNum, resA_L Try.results58]
  · constructor
    · simp [upd_eq, refsLt]
    · simp [upd_eq]
end Go.Proofs.Ytgefihgogfkjoaa

/-! Contracts of limb and of the document: how many bits, order, sums, differences. -/
namespace Go.Proofs.Ytgefihgogfkjoaa
open Go.Am

/-- how many bits a number has -/
def blen (n : Nat) : Nat := if n = 0 then 0 else n.log2 + 1
theorem blen_zero : blen 0 = 0 := rfl
theorem blen_eq {n k : Nat} (h1 : 2 ^ k ≤ n) (h2 : n < 2 ^ (k + 1)) : blen n = k + 1 := by
  have hn : n ≠ 0 := by have := Nat.two_pow_pos k; omega
  unfold blen
  rw [if_neg hn, (Nat.log2_eq_iff hn).2 ⟨h1, h2⟩]
theorem blen_shift {n k : Nat} (h : n / 2 ^ k ≠ 0) : blen n = blen (n / 2 ^ k) + k := by
  have hm : n / 2 ^ k ≠ 0 := h
  generalize hq : n / 2 ^ k = m at *
  have hl := (Nat.log2_eq_iff hm).1 rfl
  have hp := Nat.two_pow_pos k
  have e : blen m = m.log2 + 1 := by unfold blen; rw [if_neg hm]
  rw [e, show m.log2 + 1 + k = (m.log2 + k) + 1 by omega]
  refine blen_eq ?_ ?_
  · rw [Nat.pow_add]
    have : m * 2 ^ k ≤ n := by rw [← hq]; exact Nat.div_mul_le_self _ _
    exact Nat.le_trans (Nat.mul_le_mul_right _ hl.1) this
  · rw [show m.log2 + k + 1 = (m.log2 + 1) + k by omega, Nat.pow_add, ← Nat.div_lt_iff_lt_mul hp, hq]
    exact hl.2
theorem blen_le {n k : Nat} (h : n < 2 ^ k) : blen n ≤ k := by
  unfold blen
  split
  · omega
  · rename_i hn
    have := (Nat.log2_lt hn).2 h
    omega
theorem len_tab0 : ∀ y : Fin 256, (ByteArray.mk #[0, 1, 2, 2, 3, 3, 3, 3, 4, 4, 4, 4, 4, 4, 4, 4, 5, 5, 5, 5, 5, 5, 5, 5, 5, 5, 5, 5, 5, 5, 5, 5, 6, 6, 6, 6, 6, 6, 6, 6, 6, 6, 6, 6, 6, 6, 6, 6, 6, 6, 6, 6, 6, 6, 6, 6, 6, 6, 6, 6, 6, 6, 6, 6, 7, 7, 7, 7, 7, 7, 7, 7, 7, 7, 7, 7, 7, 7, 7, 7, 7, 7, 7, 7, 7, 7, 7, 7, 7, 7, 7, 7, 7, 7, 7, 7, 7, 7, 7, 7, 7, 7, 7, 7, 7, 7, 7, 7, 7, 7, 7, 7, 7, 7, 7, 7, 7, 7, 7, 7, 7, 7, 7, 7, 7, 7, 7, 7, 8, 8, 8, 8, 8, 8, 8, 8, 8, 8, 8, 8, 8, 8, 8, 8, 8, 8, 8, 8, 8, 8, 8, 8, 8, 8, 8, 8, 8, 8, 8, 8, 8, 8, 8, 8, 8, 8, 8, 8, 8, 8, 8, 8, 8, 8, 8, 8, 8, 8, 8, 8, 8, 8, 8, 8, 8, 8, 8, 8, 8, 8, 8, 8, 8, 8, 8, 8, 8, 8, 8, 8, 8, 8, 8, 8, 8, 8, 8, 8, 8, 8, 8, 8, 8, 8, 8, 8, 8, 8, 8, 8, 8, 8, 8, 8, 8, 8, 8, 8, 8, 8, 8, 8, 8, 8, 8, 8, 8, 8, 8, 8, 8, 8, 8, 8, 8, 8, 8, 8, 8, 8, 8, 8, 8, 8, 8, 8])[y.val]? = some (UInt8.ofNat (blen y.val)) := by decide +kernel
theorem len_tab {y : Nat} (h : y < 256) : (ByteArray.mk #[0, 1, 2, 2, 3, 3, 3, 3, 4, 4, 4, 4, 4, 4, 4, 4, 5, 5, 5, 5, 5, 5, 5, 5, 5, 5, 5, 5, 5, 5, 5, 5, 6, 6, 6, 6, 6, 6, 6, 6, 6, 6, 6, 6, 6, 6, 6, 6, 6, 6, 6, 6, 6, 6, 6, 6, 6, 6, 6, 6, 6, 6, 6, 6, 7, 7, 7, 7, 7, 7, 7, 7, 7, 7, 7, 7, 7, 7, 7, 7, 7, 7, 7, 7, 7, 7, 7, 7, 7, 7, 7, 7, 7, 7, 7, 7, 7, 7, 7, 7, 7, 7, 7, 7, 7, 7, 7, 7, 7, 7, 7, 7, 7, 7, 7, 7, 7, 7, 7, 7, 7, 7, 7, 7, 7, 7, 7, 7, 8, 8, 8, 8, 8, 8, 8, 8, 8, 8, 8, 8, 8, 8, 8, 8, 8, 8, 8, 8, 8, 8, 8, 8, 8, 8, 8, 8, 8, 8, 8, 8, 8, 8, 8, 8, 8, 8, 8, 8, 8, 8, 8, 8, 8, 8, 8, 8, 8, 8, 8, 8, 8, 8, 8, 8, 8, 8, 8, 8, 8, 8, 8, 8, 8, 8, 8, 8, 8, 8, 8, 8, 8, 8, 8, 8, 8, 8, 8, 8, 8, 8, 8, 8, 8, 8, 8, 8, 8, 8, 8, 8, 8, 8, 8, 8, 8, 8, 8, 8, 8, 8, 8, 8, 8, 8, 8, 8, 8, 8, 8, 8, 8, 8, 8, 8, 8, 8, 8, 8, 8, 8, 8, 8, 8, 8, 8, 8])[y]? = some (UInt8.ofNat (blen y)) := len_tab0 ⟨y, h⟩
theorem index_str {sz b : Nat} {ag : Bool} {z : List AV} {s : ByteArray} {q : IntKind} {x : Int} (h : 0 ≤ x) : indexA ⟨sz, b, ag, z, .str⟩ (.str s) (.int q x) = (s[x.toNat]?).map fun b => .int .u8 b.toNat := by
  simp [indexA, h]

set_option maxRecDepth 8000 in
theorem len32 (x : Nat) (hx : x < 4294967296) : ASpec Try.prog 105 [.int .u32 (x : Nat)] (.int .i64 (blen x : Nat)) := by
  refine ASpec.start 1000 Try.func105 (fn := Try.f105) rfl (by decide) mixed (by kernel_rfl) (by simp) ?_
  have h8 : ∀ y, y < 256 → blen y % 256 = blen y := fun y hy => by have := blen_le (k := 8) hy; omega
  by_cases h1 : 65536 ≤ x
  · have e1 := blen_shift (n := x) (k := 16) (by omega)
    have e0 : ((x : Int) / 65536) = (x / 65536 : Nat) := by omega
    generalize hz : x / 65536 = z at *
    have hz2 : z < 65536 := by omega
    by_cases h2 : 256 ≤ z
    · have e2 := blen_shift (n := z) (k := 8) (by omega)
      have e3 : ((z : Int) / 256) = (z / 256 : Nat) := by omega
      have hy := len_tab (y := z / 256) (by omega)
      have hb := blen_le (n := z / 256) (k := 8) (by omega)
      have hy8 := h8 (z / 256) (by omega)
      generalize hw : z / 256 = w at *
      simp (disch := omega) [ini, upd_eq, tyU8, tyU32, tyStr, tyInt, binA_shr, show (65536 : Int) ≤ x by omega, show (256 : Int) ≤ z by omega, e0, e3, in_u8, in_u32, in_i64, index_str, hy, hy8, resA_L Try.results105]
      omega
    · have hy := len_tab (y := z) (by omega)
      have hb := blen_le (n := z) (k := 8) (by omega)
      have hy8 := h8 z (by omega)
      simp (disch := omega) [ini, upd_eq, tyU8, tyU32, tyStr, tyInt, binA_shr, show (65536 : Int) ≤ x by omega, show ¬ (256 : Int) ≤ z by omega, e0, in_u8, in_u32, in_i64, index_str, hy, hy8, resA_L Try.results105]
      omega
  · by_cases h2 : 256 ≤ x
    · have e2 := blen_shift (n := x) (k := 8) (by omega)
      have e3 : ((x : Int) / 256) = (x / 256 : Nat) := by omega
      have hy := len_tab (y := x / 256) (by omega)
      have hb := blen_le (n := x / 256) (k := 8) (by omega)
      have hy8 := h8 (x / 256) (by omega)
      generalize hw : x / 256 = w at *
      simp (disch := omega) [ini, upd_eq, tyU8, tyU32, tyStr, tyInt, binA_shr, show ¬ (65536 : Int) ≤ x by omega, show (256 : Int) ≤ x by omega, e3, in_u8, in_u32, in_i64, index_str, hy, hy8, resA_L Try.results105]
      omega
    · have hy := len_tab (y := x) (by omega)
      have hb := blen_le (n := x) (k := 8) (by omega)
      have hy8 := h8 x (by omega)
      simp (disch := omega) [ini, upd_eq, tyU8, tyU32, tyStr, tyInt, binA_shr, show ¬ (65536 : Int) ≤ x by omega, show ¬ (256 : Int) ≤ x by omega, in_u8, in_u32, in_i64, index_str, hy, hy8, resA_L Try.results105]

/-- What is above limb i is nothing. -/
theorem blen_limb {A i : Nat} (h : A / 2 ^ (32 * (i + 1)) = 0) (hl : limb A i ≠ 0) : blen A = 32 * i + blen (limb A i) := by
  have h1 := div_limb A i
  rw [h] at h1
  have h2 : A / 2 ^ (32 * i) = limb A i := by omega
  have := blen_shift (n := A) (k := 32 * i) (by omega)
  rw [h2] at this
  omega
theorem bits (A : Nat) (hA : A < W) : ASpec Try.prog 96 [num A] (.int .i64 (blen A : Nat)) := by
  refine ASpec.start 1000 Try.func96 (fn := Try.f96) rfl (by decide) mixed (by kernel_rfl) (by simp) ?_
  simp (disch := omega) [ini, upd_eq]
  refine goT_down (X := Nat) (fun i => i) (fun i => [(1, .ptr 0 0), (3, .int .i64 ((i : Int) - 1))]) (fun _ => [(0, ⟨numL A, true⟩)]) 1
    (fun i => i ≤ 8 ∧ A / 2 ^ (32 * i) = 0) ?_ 8 ⟨Nat.le_refl _, W_top hA⟩ ⟨by simp [upd_eq, refsLt], by simp [upd_eq]⟩
  rintro i ⟨hi, hd⟩ IH
  refine goT_round mixed 100 ?_
  cases i with
  | zero =>
    have : A = 0 := by simpa using hd
    subst this
    simp [st_eq, upd_eq, blen_zero, resA_L Try.results96]
  | succ i =>
    have hi8 : i < 8 := by omega
    have hl := limb_lt A i
    by_cases h0 : limb A i = 0
    · simp (disch := omega) [st_eq, upd_eq, tyU32, tyNum, show (i : Int) < 8 by omega, numL_get hi8, limbA_def, h0, in_i64]
      refine IH i _ ⟨by omega, ?_⟩ (by omega) ⟨by simp [upd_eq, refsLt], by simp [upd_eq]⟩
      rw [div_limb, h0, hd]
    · have hb := blen_limb hd h0
      have hb2 := blen_le (n := limb A i) (k := 32) hl
      simp (disch := omega) [st_eq, upd_eq, tyU32, tyNum, show (i : Int) < 8 by omega, numL_get hi8, limbA_def, h0, in_i64, show ((limb A i : Int) != 0) = true by simp [h0]]
      refine callT_of (len32 (limb A i) hl) rfl rfl ?_
      simp (disch := omega) [upd_eq, in_i64, hb, resA_L Try.results96]
end Go.Proofs.Ytgefihgogfkjoaa

/-! Contracts of the document's limb: how many bits, order, sums, differences, a number twice. -/
namespace Go.Proofs.Ytgefihgogfkjoaa
open Go.Am

theorem low_bit {A k : Nat} (h : A / 2 ^ (k + 1) = 0) (hb : bitN A k = 0) : A / 2 ^ k = 0 := by
  unfold bitN at hb
  rw [Nat.pow_succ, ← Nat.div_div_eq_div_mul] at h
  omega
theorem top_blen {A k : Nat} (h : A / 2 ^ (k + 1) = 0) (hb : bitN A k ≠ 0) : blen A = k + 1 := by
  unfold bitN at hb
  have h1 : A < 2 ^ (k + 1) := by
    rcases Nat.lt_or_ge A (2 ^ (k + 1)) with h2 | h2
    · exact h2
    · have := Nat.div_pos h2 (Nat.two_pow_pos _); omega
  have h2 : 2 ^ k ≤ A := by
    rcases Nat.lt_or_ge A (2 ^ k) with h3 | h3
    · rw [Nat.div_eq_of_lt h3] at hb; omega
    · exact h3
  exact blen_eq h2 h1
theorem bitN_le (A k : Nat) : bitN A k < 2 := Nat.mod_lt _ (by decide)
theorem rbits (A : Nat) (hA : A < W) : ASpec Try.prog 65 [num A] (.int .i64 (blen A : Nat)) := by
  refine ASpec.start 1000 Try.func65 (fn := Try.f65) rfl (by decide) mixed (by kernel_rfl) (by simp) ?_
  simp (disch := omega) [ini, upd_eq]
  refine goT_down (X := Nat) (fun i => i) (fun i => [(1, .ptr 0 0), (3, .int .i64 ((i : Int) - 1))]) (fun _ => [(0, ⟨numL A, true⟩)]) 1
    (fun i => i ≤ 256 ∧ A / 2 ^ i = 0) ?_ 256 ⟨Nat.le_refl _, W_top hA⟩ ⟨by simp [upd_eq, refsLt], by simp [upd_eq]⟩
  rintro i ⟨hi, hd⟩ IH
  refine goT_round mixed 100 ?_
  cases i with
  | zero =>
    have : A = 0 := by simpa using hd
    subst this
    simp [st_eq, upd_eq, blen_zero, resA_L Try.results65]
  | succ i =>
    have hi8 : i < 256 := by omega
    simp (disch := omega) [st_eq, upd_eq, tyNum]
    refine callT_of (rbit A i hi8) rfl rfl ?_
    by_cases h0 : bitN A i = 0
    · simp (disch := omega) [upd_eq, h0, in_i64]
      exact IH i _ ⟨by omega, low_bit hd h0⟩ (by omega) ⟨by simp [upd_eq, refsLt], by simp [upd_eq]⟩
    · have hb := top_blen hd h0
      simp (disch := omega) [upd_eq, show 0 < bitN A i by omega, in_i64, hb, resA_L Try.results65]

theorem rcmp (A B : Nat) (hA : A < W) (hB : B < W) : ASpec Try.prog 30 [num A, num B] (.int .i64 (cmpZ A B)) := by
  refine ASpec.start 1000 Try.func30 (fn := Try.f30) rfl (by decide) mixed (by kernel_rfl) (by simp) ?_
  simp (disch := omega) [ini, upd_eq]
  refine goT_down (X := Nat) (fun i => i) (fun i => [(2, .ptr 0 0), (3, .ptr 1 0), (5, .int .i64 ((i : Int) - 1))]) (fun _ => [(0, ⟨numL A, true⟩), (1, ⟨numL B, true⟩)]) 2
    (fun i => i ≤ 8 ∧ A / 2 ^ (32 * i) = B / 2 ^ (32 * i)) ?_ 8 ⟨Nat.le_refl _, by rw [W_top hA, W_top hB]⟩ ⟨by simp [upd_eq, refsLt], by simp [upd_eq]⟩
  rintro i ⟨hi, hd⟩ IH
  refine goT_round mixed 100 ?_
  cases i with
  | zero =>
    have : A = B := by simpa using hd
    subst this
    simp [st_eq, upd_eq, cmpZ, resA_L Try.results30]
  | succ i =>
    have hi8 : i < 8 := by omega
    by_cases hl : limb A i = limb B i
    · simp (disch := omega) [st_eq, upd_eq, tyU32, tyNum, show (i : Int) < 8 by omega, numL_get hi8, limbA_def, hl, in_i64]
      exact IH i _ ⟨by omega, cmp_down A B i hd hl⟩ (by omega) ⟨by simp [upd_eq, refsLt], by simp [upd_eq]⟩
    · have hc := cmp_here A B i hd hl
      by_cases h1 : limb A i < limb B i
      · have : cmpZ A B = -1 := by rw [hc]; simp [cmpZ, h1]
        simp (disch := omega) [st_eq, upd_eq, tyU32, tyNum, show (i : Int) < 8 by omega, numL_get hi8, limbA_def, h1, in_i64, this, resA_L Try.results30]
      · have : cmpZ A B = 1 := by rw [hc]; simp [cmpZ, h1, show limb B i < limb A i by omega]
        simp (disch := omega) [st_eq, upd_eq, tyU32, tyNum, show (i : Int) < 8 by omega, numL_get hi8, limbA_def, h1, show limb B i < limb A i by omega, in_i64, this, resA_L Try.results30]

theorem radd (A B : Nat) (hA : A < W) (hB : B < W) : ASpec Try.prog 83 [num A, num B] (.tup [num ((A + B) % W), .int .u32 ((A + B) / W : Nat)]) := by
  rw [num_mod, ← carry_W hA hB]
  refine ASpec.start 1000 Try.func83 (fn := Try.f83) rfl (by decide) mixed (by kernel_rfl) (by simp) ?_
  simp (disch := omega) [ini, upd_eq, tyNum]
  refine goT_count (fun i => [(2, .ptr 0 0), (3, .ptr 1 0), (4, .ptr 2 0), (6, .ptr 3 0), (7, .int .u64 (carry A B i : Nat)), (8, .int .i64 (i : Nat))]) (fun i => [(0, ⟨numL A, true⟩), (1, ⟨numL B, true⟩), (2, ⟨numL 0, true⟩), (3, ⟨mixN (A + B) 0 i, true⟩)]) 4 8 ?_ ?_ ?_
  · intro i hi IH
    refine goT_round mixed 100 ?_
    have ha := limb_lt A i
    have hb := limb_lt B i
    have hc := carry_le A B i
    have hc1 := carry_le A B (i + 1)
    have hs := carry_step A B i
    have hl := limb_lt (A + B) i
    have e1 : ((carry A B i : Int) + limb A i + limb B i) % 4294967296 = limb (A + B) i := by omega
    have e2 : ((carry A B i : Int) + limb A i + limb B i) / 4294967296 = carry A B (i + 1) := by omega
    simp (disch := omega) [st_eq, upd_eq, tyU32, tyU64, tyNum, show (i : Int) < 8 by omega, numL_get hi, limbA_def, hi, in_u64, in_i64, w_u32, binA_shr, store_int, e1, e2]
    refine IH _ ⟨?_, ?_⟩
    · simp [upd_eq, refsLt]
    · simp [upd_eq]
      exact mixN_set rfl
  · refine goT_round mixed 100 ?_
    have hc := carry_le A B 8
    simp (disch := omega) [st_eq, upd_eq, tyNum, tyU32, tyU64, in_u32, resA_L Try.results83]
  · constructor
    · simp [upd_eq, refsLt, carry_zero]
    · simp [upd_eq]

theorem rsub (A B : Nat) (hA : A < W) (hB : B < W) : ASpec Try.prog 67 [num A, num B] (.tup [num ((A + W - B) % W), .int .u32 (if A < B then 1 else 0 : Nat)]) := by
  rw [num_mod, ← sub_num hA hB]
  have hD : A + W - B + B = A + W := by omega
  generalize A + W - B = D at hD
  refine ASpec.start 1000 Try.func67 (fn := Try.f67) rfl (by decide) mixed (by kernel_rfl) (by simp) ?_
  simp (disch := omega) [ini, upd_eq, tyNum]
  refine goT_count (fun i => [(2, .ptr 0 0), (3, .ptr 1 0), (4, .ptr 2 0), (6, .ptr 3 0), (7, .int .u64 (carry D B i : Nat)), (8, .int .i64 (i : Nat))]) (fun i => [(0, ⟨numL A, true⟩), (1, ⟨numL B, true⟩), (2, ⟨numL 0, true⟩), (3, ⟨mixN D 0 i, true⟩)]) 4 8 ?_ ?_ ?_
  · intro i hi IH
    refine goT_round mixed 100 ?_
    have ha := limb_lt A i
    have hb := limb_lt B i
    have hc := carry_le D B i
    have hc1 := carry_le D B (i + 1)
    have hs := carry_step D B i
    rw [hD, limb_addW hi] at hs
    have hl := limb_lt D i
    by_cases hlt : limb A i < limb B i + carry D B i
    · have hk : carry D B (i + 1) = 1 := by omega
      simp (disch := omega) [st_eq, upd_eq, tyU32, tyU64, tyNum, show (i : Int) < 8 by omega, numL_get hi, limbA_def, hi, in_u64, in_i64, w_u32, store_int, show (limb A i : Int) < limb B i + carry D B i by omega,
        show ((limb A i : Int) + 4294967296 - (limb B i + carry D B i)) % 4294967296 = limb D i by omega]
      refine IH _ ⟨?_, ?_⟩
      · simp [upd_eq, refsLt, hk]
      · simp [upd_eq]
        exact mixN_set rfl
    · have hk : carry D B (i + 1) = 0 := by omega
      simp (disch := omega) [st_eq, upd_eq, tyU32, tyU64, tyNum, show (i : Int) < 8 by omega, numL_get hi, limbA_def, hi, in_u64, in_i64, w_u32, store_int, show ¬ (limb A i : Int) < limb B i + carry D B i by omega,
        show ((limb A i : Int) - (limb B i + carry D B i)) % 4294967296 = limb D i by omega]
      refine IH _ ⟨?_, ?_⟩
      · simp [upd_eq, refsLt, hk]
      · simp [upd_eq]
        exact mixN_set rfl
  · refine goT_round mixed 100 ?_
    have hc := carry_le D B 8
    simp (disch := omega) [st_eq, upd_eq, tyNum, tyU32, tyU64, in_u32, resA_L Try.results67]
  · constructor
    · simp [upd_eq, refsLt, carry_zero]
    · simp [upd_eq]
end Go.Proofs.Ytgefihgogfkjoaa

/-! Numbers held against one another; the document's number twice. -/
namespace Go.Proofs.Ytgefihgogfkjoaa
open Go.Am

theorem ext_limb {A B : Nat} (hA : A < W) (hB : B < W) (h : ∀ i, i < 8 → limb A i = limb B i) : A = B := by
  have key : ∀ i, i ≤ 8 → A % 2 ^ (32 * i) = B % 2 ^ (32 * i) := by
    intro i
    induction i with
    | zero => intro _; simp [Nat.mod_one]
    | succ i ih => intro hi; rw [mod_step, mod_step, ih (by omega), h i (by omega)]
  have h8 := key 8 (Nat.le_refl _)
  rwa [show 2 ^ (32 * 8) = W from rfl, Nat.mod_eq_of_lt hA, Nat.mod_eq_of_lt hB] at h8
theorem eqCells_map {k : IntKind} (x y : Nat → Nat) : ∀ l : List Nat, eqCells (l.map fun i => .int k (x i : Nat)) (l.map fun i => .int k (y i : Nat)) = some (l.all fun i => x i == y i)
  | [] => rfl
  | a :: l => by
    simp only [List.map_cons, eqCells, eqCells_map x y l, eqCell, List.all_cons]
    have : ((x a : Int) == (y a : Int)) = (x a == y a) := by
      rw [Bool.eq_iff_iff]
      simp only [beq_iff_eq]
      omega
    simp [this]
theorem aggNum : aggT Try.prog 27 = true := by kernel_rfl
theorem kindsNum (A : Nat) : kindsOk (List.replicate 8 (.i .u32)) (numL A) = true := rfl
theorem eqA_num {A B : Nat} (hA : A < W) (hB : B < W) : eqA Try.prog 27 (numL A) (numL B) = some (decide (A = B)) := by
  unfold eqA
  rw [eqkNum]
  simp only [kindsNum, aggNum, and_self, if_true]
  have := eqCells_map (k := .u32) (limb A) (limb B) (List.range 8)
  rw [show numL A = (List.range 8).map fun i => .int .u32 (limb A i : Nat) from rfl, show numL B = (List.range 8).map fun i => .int .u32 (limb B i : Nat) from rfl, this]
  congr 1
  rw [Bool.eq_iff_iff]
  simp only [List.all_eq_true, List.mem_range, beq_iff_eq, decide_eq_true_eq]
  exact ⟨fun h => ext_limb hA hB h, fun h => by subst h; exact fun _ _ => rfl⟩
theorem eql_num {A B : Nat} (hA : A < W) (hB : B < W) : binA Try.prog .eql 27 (num A) (num B) = some (.bool (decide (A = B))) := by
  simp only [binA, num, eqA_num hA hB]
theorem neq_num {A B : Nat} (hA : A < W) (hB : B < W) : binA Try.prog .neq 27 (num A) (num B) = some (.bool (decide (A ≠ B))) := by
  simp only [binA, num, eqA_num hA hB, decide_not]

theorem or_low {A b : Nat} (hb : b < 2) : limb (2 * A) 0 ||| b = limb (2 * A + b) 0 := by
  have e1 : limb (2 * A) 0 = 2 ^ 1 * (A % 2147483648) := by simp [limb_def]; omega
  have e2 : limb (2 * A + b) 0 = 2 ^ 1 * (A % 2147483648) + b := by simp [limb_def]; omega
  rw [e1, e2, Nat.two_pow_add_eq_or_of_lt (by simpa using hb)]
theorem limb_low {A b i : Nat} (hb : b < 2) (hi : 0 < i) : limb (2 * A + b) i = limb (2 * A) i := by
  simp only [limb_def]
  obtain ⟨k, hk⟩ : ∃ k, 32 * i = k + 1 := ⟨32 * i - 1, by omega⟩
  rw [hk, Nat.pow_succ, Nat.mul_comm (2 ^ k) 2, ← Nat.div_div_eq_div_mul, ← Nat.div_div_eq_div_mul, show (2 * A + b) / 2 = A by omega, show 2 * A / 2 = A by omega]
theorem numL_low {A b : Nat} {v : Int} (hb : b < 2) (hv : v = limb (2 * A + b) 0) : (numL (2 * A)).set 0 (.int .u32 v) = numL (2 * A + b) := by
  subst hv
  unfold numL
  rw [famL_set]
  refine famL_congr fun i _ => ?_
  unfold upd
  by_cases h : i = 0
  · subst h; simp [limbA]
  · simp [h, limbA, limb_low hb (show 0 < i by omega)]

theorem twice (A b : Nat) (hA : A < W) (hb : b < 2) : ASpec Try.prog 90 [num A, .int .u32 (b : Nat)] (.tup [num ((2 * A + b) % W), .int .u32 (2 * A / W : Nat)]) := by
  refine ASpec.start 1000 Try.func90 (fn := Try.f90) rfl (by decide) mixed (by kernel_rfl) (by simp) ?_
  simp (disch := omega) [ini, upd_eq, tyNum]
  refine callT_of (radd A A hA hA) rfl rfl ?_
  rw [num_mod, num_mod, show A + A = 2 * A by omega]
  have hl := limb_lt (2 * A) 0
  have hs := numL_low (A := A) hb rfl
  have ho := bor32 hl (show b < 4294967296 by omega)
  rw [or_low hb] at ho
  simp (disch := omega) [upd_eq, tyNum, tyU32, numL_get, limbA_def, ho, hs, store_int, segA_all, resA_L Try.results90]
end Go.Proofs.Ytgefihgogfkjoaa

/-! What is left of a product, divided: limb and the document. -/
namespace Go.Proofs.Ytgefihgogfkjoaa
open Go.Am

def restN (X m : Nat) : Nat := if m = 0 then 0 else X % m
theorem rest_step {X m i v : Nat} (hm : 0 < m) (hv : v = 2 * (X / 2 ^ (i + 1) % m) + bitN X i) : v < 2 * m ∧ X / 2 ^ i % m = if v < m then v else v - m := by
  have h1 := Nat.mod_lt (X / 2 ^ (i + 1)) hm
  have hb := bitN_le X i
  have h2 : X / 2 ^ i = 2 * (X / 2 ^ (i + 1)) + bitN X i := by
    unfold bitN
    rw [Nat.pow_succ, ← Nat.div_div_eq_div_mul]
    omega
  have h3 := Nat.div_add_mod (X / 2 ^ (i + 1)) m
  have h4 : X / 2 ^ i % m = v % m := by
    rw [h2]
    generalize X / 2 ^ (i + 1) = q at *
    have : 2 * q + bitN X i = v + m * (2 * (q / m)) := by
      rw [hv, Nat.mul_left_comm]
      omega
    rw [this, Nat.add_mul_mod_self_left]
  have h5 : v < 2 * m := by omega
  refine ⟨h5, ?_⟩
  rw [h4]
  split
  · rename_i h; exact Nat.mod_eq_of_lt h
  · rename_i h
    rw [Nat.mod_eq_sub_mod (by omega), Nat.mod_eq_of_lt (by omega)]
theorem bit_lo {hi lo i : Nat} (h : i < 256) : bitN lo i = bitN (hi * W + lo) i := by
  unfold bitN
  have e : hi * W = 2 ^ i * (2 * (hi * 2 ^ (255 - i))) := by
    have : W = 2 ^ i * (2 * 2 ^ (255 - i)) := by
      unfold W
      rw [← Nat.pow_succ', ← Nat.pow_add]
      congr 1; omega
    rw [this]
    simp only [Nat.mul_left_comm, Nat.mul_comm, Nat.mul_assoc]
  rw [e, Nat.mul_add_div (Nat.two_pow_pos _)]
  omega
theorem bit_hi {hi lo i : Nat} (hl : lo < W) (h : 256 ≤ i) : bitN hi (i - 256) = bitN (hi * W + lo) i := by
  unfold bitN
  have : 2 ^ i = W * 2 ^ (i - 256) := by
    unfold W
    rw [← Nat.pow_add, show 256 + (i - 256) = i by omega]
  rw [this, ← Nat.div_div_eq_div_mul, Nat.mul_comm hi W, Nat.mul_add_div W_pos, Nat.div_eq_of_lt hl, Nat.add_zero]
def dv (X i : Nat) : Nat := X / 2 ^ i
@[simp] theorem dv_zero (X : Nat) : dv X 0 = X := by simp [dv]
theorem rest_stepD {X m i v : Nat} (hm : 0 < m) (hv : v = 2 * (dv X (i + 1) % m) + bitN X i) : v < 2 * m ∧ dv X i % m = if v < m then v else v - m := rest_step hm hv
theorem pow_two_sum (a b k : Nat) (h : k = a + b) : 2 ^ k = 2 ^ a * 2 ^ b := by subst h; exact Nat.pow_add ..
theorem rest_top0 {X k : Nat} (hk : k = 256 + 256) (hX : X < W * W) : dv X k = 0 := by
  unfold dv
  refine Nat.div_eq_of_lt ?_
  rw [pow_two_sum 256 256 k hk]
  exact hX
theorem rest_top {hi lo : Nat} (hl : lo < W) (hh : hi < W) : dv (hi * W + lo) 512 = 0 := by
  refine rest_top0 rfl ?_
  have h1 : (hi + 1) * W ≤ W * W := Nat.mul_le_mul_right _ hh
  rw [Nat.add_mul, Nat.one_mul] at h1
  omega

/-- What is done with 'double', 'over': as limb and the document do it. -/
theorem rest_sub {v m : Nat} (hm : m < W) (h5 : v < 2 * m) (hge : ¬ v < m) : (v % W + W - m) % W = v - m := by
  have hW := W_pos
  rcases Nat.lt_or_ge v W with h | h
  · rw [Nat.mod_eq_of_lt h, show v + W - m = v - m + W by omega, Nat.add_mod_right, Nat.mod_eq_of_lt (by omega)]
  · rw [Nat.mod_eq_sub_mod h, Nat.mod_eq_of_lt (show v - W < W by omega), Nat.mod_eq_of_lt (by omega)]
    omega
theorem over_eq {r b : Nat} (hb : b < 2) : 2 * r / W = (2 * r + b) / W := by
  have : W = 2 * 2 ^ 255 := by unfold W; rw [← Nat.pow_succ']
  rw [this, ← Nat.div_div_eq_div_mul, ← Nat.div_div_eq_div_mul, show 2 * r / 2 = (2 * r + b) / 2 by omega]

theorem rrest (lo hi m : Nat) (hl : lo < W) (hh : hi < W) (hm : m < W) : ASpec Try.prog 69 [num lo, num hi, num m] (.tup [num (restN (hi * W + lo) m), .bool (decide (m ≠ 0))]) := by
  refine ASpec.start 1000 Try.func69 (fn := Try.f69) rfl (by decide) mixed (by kernel_rfl) (by simp) ?_
  have h0W : 0 < W := W_pos
  by_cases hm0 : m = 0
  · subst hm0
    simp (disch := omega) [ini, upd_eq, tyNum, eql_num, restN, resA_L Try.results69]
  simp (disch := omega) [ini, upd_eq, tyNum, eql_num, hm0]
  generalize hX : hi * W + lo = X
  refine goT_down (X := Nat) (fun i => i) (fun i => [(3, .ptr 0 0), (4, .ptr 1 0), (5, .ptr 2 0), (6, .ptr 3 0), (8, .ptr 4 0), (9, .int .i64 ((i : Int) - 1))])
    (fun i => [(0, ⟨numL lo, true⟩), (1, ⟨numL hi, true⟩), (2, ⟨numL m, true⟩), (3, ⟨numL 0, true⟩), (4, ⟨numL (dv X i % m), true⟩)]) 5
    (fun i => i ≤ 512) ?_ 512 (Nat.le_refl _) ⟨by simp [upd_eq, refsLt], by have := rest_top hl hh; rw [hX] at this; simp [upd_eq, this]⟩
  intro i hi' IH
  refine goT_round mixed 100 ?_
  cases i with
  | zero =>
    simp (disch := omega) [st_eq, upd_eq, tyNum, restN, hm0, resA_L Try.results69]
  | succ i =>
    have hb := bitN_le X i
    obtain ⟨hv2, hstep⟩ := rest_stepD (X := X) (m := m) (i := i) (by omega) rfl
    have hr := Nat.mod_lt (dv X (i + 1)) (show 0 < m by omega)
    generalize hR : dv X (i + 1) % m = R at *
    have hov : 2 * R / W = (2 * R + bitN X i) / W := over_eq hb
    generalize hV : 2 * R + bitN X i = v at *
    have ei : ((i : Int) - 256).toNat = i - 256 := by omega
    have eb : ∀ k, k < W → k % W = k := fun k h => Nat.mod_eq_of_lt h
    by_cases h256 : 256 ≤ i
    case' pos =>
      have e : ((i : Int) - 256) = ((i - 256 : Nat) : Int) := by omega
      simp (disch := omega) [st_eq, upd_eq, tyU32, tyNum, show (256 : Int) ≤ i by omega, in_i64, e]
      refine callT_of (rbit hi (i - 256) (by omega)) rfl rfl ?_
      rw [bit_hi hl h256, hX]
    case' neg =>
      simp (disch := omega) [st_eq, upd_eq, tyU32, tyNum, show ¬ (256 : Int) ≤ i by omega, in_i64]
      refine callT_of (rbit lo i (by omega)) rfl rfl ?_
      rw [bit_lo (hi := hi) (show i < 256 by omega), hX]
    all_goals
      simp (disch := omega) [upd_eq, tyU32, tyNum]
      refine callT_of (twice R (bitN X i) (by omega) hb) rfl rfl ?_
      rw [hov, hV]
      by_cases hlt : v < m
      · have h1 : v / W = 0 := Nat.div_eq_of_lt (by omega)
        have h2 := eb v (by omega)
        rw [if_pos hlt] at hstep
        simp (disch := omega) [upd_eq, tyU32, tyNum, h1, h2]
        refine callT_of (rcmp v m (by omega) hm) rfl rfl ?_
        simp (disch := omega) [upd_eq, tyU32, tyNum, cmpZ, hlt, in_i64]
        exact IH i _ (by omega) (by omega) ⟨by simp [upd_eq, refsLt], by simp [upd_eq, hstep]⟩
      · have h2 := rest_sub hm hv2 hlt
        rw [if_neg hlt] at hstep
        have hvW : v % W < W := Nat.mod_lt _ W_pos
        have h7 := rsub (v % W) m hvW hm
        rw [h2] at h7
        have h6 : v / W ≤ 1 := by have : v < 2 * W := by omega
                                  have := Nat.div_lt_of_lt_mul (by omega : v < W * 2); omega
        rcases Nat.lt_or_ge v W with hvl | hvl
        · have h1 : v / W = 0 := Nat.div_eq_of_lt hvl
          have h3 : cmpZ v m ≥ 0 := by unfold cmpZ; rw [if_neg hlt]; split <;> omega
          rw [Nat.mod_eq_of_lt hvl] at h7
          simp (disch := omega) [upd_eq, tyU32, tyNum, h1, Nat.mod_eq_of_lt hvl]
          refine callT_of (rcmp v m hvl hm) rfl rfl ?_
          simp (disch := omega) [upd_eq, tyU32, tyNum, h3, in_i64]
          refine callT_of h7 rfl rfl ?_
          simp (disch := omega) [upd_eq, tyU32, tyNum, in_i64]
          exact IH i _ (by omega) (by omega) ⟨by simp [upd_eq, refsLt], by simp [upd_eq, hstep]⟩
        · have h1 : v / W = 1 := by have := Nat.div_pos hvl W_pos; omega
          simp (disch := omega) [upd_eq, tyU32, tyNum, h1]
          refine callT_of h7 rfl rfl ?_
          simp (disch := omega) [upd_eq, tyU32, tyNum, in_i64]
          exact IH i _ (by omega) (by omega) ⟨by simp [upd_eq, refsLt], by simp [upd_eq, hstep]⟩

theorem rest (lo hi m : Nat) (hl : lo < W) (hh : hi < W) (hm : m < W) : ASpec Try.prog 60 [num lo, num hi, num m] (.tup [num (restN (hi * W + lo) m), .bool (decide (m ≠ 0))]) := by
  refine ASpec.start 1000 Try.func60 (fn := Try.f60) rfl (by decide) mixed (by kernel_rfl) (by simp) ?_
  have h0W : 0 < W := W_pos
  by_cases hm0 : m = 0
  · subst hm0
    simp (disch := omega) [ini, upd_eq, tyNum, eql_num, restN, resA_L Try.results60]
  simp (disch := omega) [ini, upd_eq, tyNum, eql_num, hm0]
  generalize hX : hi * W + lo = X
  refine goT_down (X := Nat) (fun i => i) (fun i => [(3, .ptr 0 0), (4, .ptr 1 0), (5, .ptr 2 0), (6, .ptr 3 0), (8, .ptr 4 0), (9, .int .i64 ((i : Int) - 1))])
    (fun i => [(0, ⟨numL lo, true⟩), (1, ⟨numL hi, true⟩), (2, ⟨numL m, true⟩), (3, ⟨numL 0, true⟩), (4, ⟨numL (dv X i % m), true⟩)]) 5
    (fun i => i ≤ 512) ?_ 512 (Nat.le_refl _) ⟨by simp [upd_eq, refsLt], by have := rest_top hl hh; rw [hX] at this; simp [upd_eq, this]⟩
  intro i hi' IH
  refine goT_round mixed 100 ?_
  cases i with
  | zero =>
    simp (disch := omega) [st_eq, upd_eq, tyNum, restN, hm0, resA_L Try.results60]
  | succ i =>
    have hb := bitN_le X i
    obtain ⟨hv2, hstep⟩ := rest_stepD (X := X) (m := m) (i := i) (by omega) rfl
    have hr := Nat.mod_lt (dv X (i + 1)) (show 0 < m by omega)
    generalize hR : dv X (i + 1) % m = R at *
    have hov : 2 * R / W = (2 * R + bitN X i) / W := over_eq hb
    generalize hV : 2 * R + bitN X i = v at *
    have h7 := add R R (by omega) (by omega)
    rw [num_mod, show R + R = 2 * R by omega, hov] at h7
    have hq1 : v < m → v / W = 0 := fun h => Nat.div_eq_of_lt (by omega)
    have hq2 : v < W → v / W = 0 := fun h => Nat.div_eq_of_lt h
    have hq3 : W ≤ v → v / W = 1 := fun h => by
      have : v < W * 2 := by omega
      have := Nat.div_lt_of_lt_mul this
      have := Nat.div_pos h W_pos
      omega
    generalize hq : v / W = q at *
    have hl0 := limb_lt (2 * R) 0
    have hs := numL_low (A := R) hb rfl
    have ho := bor32 hl0 (show bitN X i < 4294967296 by omega)
    rw [or_low hb] at ho
    rw [hV] at ho hs
    have e256 : ((i : Int) % 256).toNat = i % 256 := by omega
    simp (disch := omega) [st_eq, upd_eq, tyU32, tyNum, in_i64]
    by_cases h256 : 256 ≤ i
    case' pos =>
      have e : ((i : Int) % 256) = ((i - 256 : Nat) : Int) := by omega
      have hbit := bit hi (i - 256) (by omega)
      rw [bit_hi hl h256, hX] at hbit
      simp (disch := omega) [upd_eq, tyNum, show (256 : Int) ≤ i by omega]
      refine callT_of h7 rfl rfl ?_
      simp (disch := omega) [upd_eq, tyU32, tyNum, numL_get, limbA_def, binA_rem, e]
      refine callT_of hbit rfl rfl ?_
    case' neg =>
      have e : ((i : Int) % 256) = (i : Int) := by omega
      have hbit := bit lo i (by omega)
      rw [bit_lo (hi := hi) (show i < 256 by omega), hX] at hbit
      simp (disch := omega) [upd_eq, tyNum, show ¬ (256 : Int) ≤ i by omega]
      refine callT_of h7 rfl rfl ?_
      simp (disch := omega) [upd_eq, tyU32, tyNum, numL_get, limbA_def, binA_rem, e]
      refine callT_of hbit rfl rfl ?_
    all_goals
      simp (disch := omega) [upd_eq, tyU32, tyNum, ho, hs, store_int, segA_all]
      have hvW : v % W < W := Nat.mod_lt _ W_pos
      have h8 := sub (v % W) m hvW hm
      rw [num_mod v] at h8
      refine callT_of h8 rfl rfl ?_
      by_cases hlt : v < m
      · have h1 : q = 0 := hq1 hlt
        have h2 : v % W = v := Nat.mod_eq_of_lt (by omega)
        rw [if_pos hlt] at hstep
        have hb0 : bitsA .or .u32 0 0 = 0 := by decide
        simp (disch := omega) [upd_eq, tyU32, tyNum, h1, h2, hlt, hb0, in_u32]
        refine callT_of (pick 0 _ v) rfl rfl ?_
        simp (disch := omega) [upd_eq, tyU32, tyNum, in_i64]
        exact IH i _ (by omega) (by omega) ⟨by simp [upd_eq, refsLt], by simp [upd_eq, hstep]⟩
      · have h2 := rest_sub hm hv2 hlt
        rw [if_neg hlt] at hstep
        have h9 : ∃ y : Nat, y ≠ 0 ∧ bitsA .or .u32 (q : Int) (IntKind.u32.wrap (1 - ((if v % W < m then 1 else 0 : Nat) : Int))) = (y : Nat) := by
          refine ⟨1, by decide, ?_⟩
          rcases Nat.lt_or_ge v W with hvl | hvl
          · rw [hq2 hvl, Nat.mod_eq_of_lt hvl, if_neg hlt]
            decide
          · rw [hq3 hvl]
            split <;> decide
        obtain ⟨y, hy, h9⟩ := h9
        generalize hln : (if v % W < m then 1 else 0 : Nat) = lent at h9
        simp (disch := omega) only [hln, h2]
        simp (disch := omega) [upd_eq, tyU32, tyNum, h9]
        refine callT_of (pick y _ v) rfl rfl ?_
        simp (disch := omega) [upd_eq, tyU32, tyNum, in_i64, hy]
        exact IH i _ (by omega) (by omega) ⟨by simp [upd_eq, refsLt], by simp [upd_eq, hstep]⟩
end Go.Proofs.Ytgefihgogfkjoaa

/-! Products: limb and the document. -/
namespace Go.Proofs.Ytgefihgogfkjoaa
open Go.Am

/-- What is carried at limb k of a * B + Y. -/
def mcar (a B Y k : Nat) : Nat := (a * (B % 2 ^ (32 * k)) + Y % 2 ^ (32 * k)) / 2 ^ (32 * k)
theorem mcar_zero (a B Y : Nat) : mcar a B Y 0 = 0 := by simp [mcar, Nat.mod_one]
theorem mcar_lt {a B Y k : Nat} (ha : a < 4294967296) : mcar a B Y k < 4294967296 := by
  unfold mcar
  have h0 : 0 < 2 ^ (32 * k) := Nat.two_pow_pos _
  have h1 := Nat.mod_lt B h0
  have h2 := Nat.mod_lt Y h0
  generalize 2 ^ (32 * k) = q at *
  apply Nat.div_lt_of_lt_mul
  have h3 : a * (B % q) ≤ 4294967295 * (q - 1) := Nat.mul_le_mul (by omega) (by omega)
  omega
theorem mcar_step (a B Y k : Nat) : a * limb B k + limb Y k + mcar a B Y k = limb (a * B + Y) k + 4294967296 * mcar a B Y (k + 1) := by
  have sum : ∀ j, a * (B % 2 ^ (32 * j)) + Y % 2 ^ (32 * j) = (a * B + Y) % 2 ^ (32 * j) + 2 ^ (32 * j) * mcar a B Y j := fun j => by
    have h := Nat.mod_add_div (a * (B % 2 ^ (32 * j)) + Y % 2 ^ (32 * j)) (2 ^ (32 * j))
    have e : (a * (B % 2 ^ (32 * j)) + Y % 2 ^ (32 * j)) % 2 ^ (32 * j) = (a * B + Y) % 2 ^ (32 * j) := by
      rw [Nat.add_mod, Nat.mul_mod, Nat.mod_mod, ← Nat.mul_mod, Nat.mod_mod, ← Nat.add_mod]
    rw [e] at h
    unfold mcar
    omega
  have h0 := sum k
  have h1 := sum (k + 1)
  rw [mod_step B k, mod_step Y k, mod_step (a * B + Y) k] at h1
  have hp : 2 ^ (32 * (k + 1)) = 2 ^ (32 * k) * 4294967296 := by rw [show 32 * (k + 1) = 32 * k + 32 by omega, Nat.pow_add]
  rw [hp] at h1
  have h2 : 0 < 2 ^ (32 * k) := Nat.two_pow_pos _
  generalize 2 ^ (32 * k) = q at *
  have : q * (a * limb B k + limb Y k + mcar a B Y k) = q * (limb (a * B + Y) k + 4294967296 * mcar a B Y (k + 1)) := by
    rw [Nat.mul_add, Nat.mul_add, Nat.mul_add, ← Nat.mul_assoc q 4294967296]
    rw [Nat.mul_add, ← Nat.mul_assoc a q, Nat.mul_comm a q, Nat.mul_assoc q a] at h1
    omega
  exact Nat.eq_of_mul_eq_mul_left h2 this

/-- The product of the first i limbs. -/
def pp (A B i : Nat) : Nat := A % 2 ^ (32 * i) * B
theorem pp_step (A B i : Nat) : pp A B (i + 1) = pp A B i + 2 ^ (32 * i) * (limb A i * B) := by
  unfold pp
  rw [mod_step, Nat.add_mul, Nat.mul_assoc]
theorem limb_up (N i k : Nat) : limb N (i + k) = limb (N / 2 ^ (32 * i)) k := by
  simp only [limb_def]
  rw [Nat.div_div_eq_div_mul, ← Nat.pow_add, Nat.mul_add]
theorem pp_div (A B i : Nat) : pp A B (i + 1) / 2 ^ (32 * i) = limb A i * B + pp A B i / 2 ^ (32 * i) := by
  rw [pp_step, Nat.add_mul_div_left _ _ (Nat.two_pow_pos _), Nat.add_comm]
theorem limb_below {M N i j : Nat} (h : j < i) : limb (M + 2 ^ (32 * i) * N) j = limb M j := by
  simp only [limb_def]
  have : 2 ^ (32 * i) = 2 ^ (32 * j) * (2 ^ 32 * 2 ^ (32 * (i - j - 1))) := by
    rw [← Nat.pow_add, ← Nat.pow_add]; congr 1; omega
  rw [this, Nat.mul_assoc, Nat.add_mul_div_left _ _ (Nat.two_pow_pos _), Nat.mul_assoc, Nat.add_mul_mod_self_left]
theorem pp_lt {A B i : Nat} (hB : B < W) : pp A B i < 2 ^ (32 * (i + 8)) := by
  unfold pp
  rw [Nat.mul_add, Nat.pow_add]
  exact Nat.mul_lt_mul_of_lt_of_le (Nat.mod_lt _ (Nat.two_pow_pos _)) (Nat.le_of_lt hB) W_pos
theorem limb_none {N i j : Nat} (h : N < 2 ^ (32 * i)) (hj : i ≤ j) : limb N j = 0 := by
  rw [limb_def, Nat.div_eq_of_lt (Nat.lt_of_lt_of_le h (Nat.pow_le_pow_right (by decide) (by omega)))]
theorem pp_last {A B i : Nat} (hB : B < W) : mcar (limb A i) B (pp A B i / 2 ^ (32 * i)) 8 = limb (pp A B (i + 1)) (i + 8) := by
  rw [limb_up, pp_div]
  have hY : pp A B i / 2 ^ (32 * i) < W := by
    apply Nat.div_lt_of_lt_mul
    have := pp_lt (A := A) (i := i) hB
    rwa [Nat.mul_add, Nat.pow_add] at this
  have hc := mcar_lt (a := limb A i) (B := B) (Y := pp A B i / 2 ^ (32 * i)) (k := 8) (limb_lt _ _)
  unfold mcar at *
  rw [show 2 ^ (32 * 8) = W from rfl] at *
  rw [Nat.mod_eq_of_lt hB, Nat.mod_eq_of_lt hY] at *
  rw [limb_def (_ + _), show 2 ^ (32 * 8) = W from rfl, Nat.mod_eq_of_lt hc]

/-- The array as it stands at i, k. -/
noncomputable def mulL (A B i k : Nat) : List AV := mixL (limbA (pp A B (i + 1))) (limbA (pp A B i)) 16 (i + k)
@[simp] theorem mulL_length (A B i k : Nat) : (mulL A B i k).length = 16 := by simp [mulL]
@[simp] theorem refsLts_mulL (m A B i k : Nat) : refsLts m (mulL A B i k) = true := refsLts_mixL (fun _ => rfl) (fun _ => rfl)
noncomputable def wide (N : Nat) : List AV := famL (limbA N) 16
@[simp] theorem wide_length (N : Nat) : (wide N).length = 16 := by simp [wide]
@[simp] theorem refsLts_wide (m N : Nat) : refsLts m (wide N) = true := refsLts_famL fun _ _ => rfl
theorem wide_zero {A B : Nat} : famL (fun _ => AV.int .u32 0) 16 = wide (pp A B 0) := famL_congr fun i _ => by simp [pp, Nat.mod_one, limbA, limb_def]
theorem mulL_zero (A B i : Nat) : mulL A B i 0 = wide (pp A B i) := by
  refine famL_congr fun j _ => ?_
  by_cases h : j < i
  · simp only [Nat.add_zero, h, if_true, pp_step, limbA, limb_below h]
  · simp [h]
theorem mulL_get {A B i k : Nat} (hi : i < 8) (hk : k < 8) : (mulL A B i k)[i + k]? = some (limbA (pp A B i / 2 ^ (32 * i)) k) := by
  rw [mulL, mixL_get (by omega), limbA, limb_up, limbA]
theorem mulL_set {A B i k : Nat} {v : AV} (hv : v = limbA (limb A i * B + pp A B i / 2 ^ (32 * i)) k) : (mulL A B i k).set (i + k) v = mulL A B i (k + 1) := by
  rw [mulL, mixL_set]
  · rfl
  · rw [hv, limbA, limbA, limb_up, pp_div]
theorem mulL_last {A B i : Nat} (hB : B < W) : (mulL A B i 8).set (i + 8) (.int .u32 (mcar (limb A i) B (pp A B i / 2 ^ (32 * i)) 8 : Nat)) = wide (pp A B (i + 1)) := by
  rw [mulL, mixL_set (by rw [pp_last hB]; rfl)]
  refine famL_congr fun j hj => ?_
  by_cases h : j < i + 8 + 1
  · simp [h]
  · simp only [h, if_false, limbA]
    rw [limb_none (pp_lt hB) (show i + 8 ≤ j by omega), limb_none (pp_lt (i := i + 1) hB) (show i + 1 + 8 ≤ j by omega)]
theorem pp_all {A : Nat} (hA : A < W) (B : Nat) : pp A B 8 = A * B := by
  unfold pp
  rw [show 2 ^ (32 * 8) = W from rfl, Nat.mod_eq_of_lt hA]
theorem wide_lo (N : Nat) : (wide N).take 8 = numL N := famL_take (by decide)
theorem wide_hi (N : Nat) : (wide N).drop 8 = numL (N / W) := by
  rw [wide, famL_drop]
  exact famL_congr fun j _ => by rw [limbA, limb_up, limbA]; rfl

theorem copy_num {bk : Nat → Option Blk} {nt id id' off s b e eb M N : Nat} {a ea f f' : Bool} {z w : List AV} (hb : bk id = some ⟨numL M, f⟩) (hs : bk id' = some ⟨w, f'⟩) (hw : off + 8 ≤ w.length) (he : (w.drop off).take 8 = numL N) :
    copyA ⟨s, b, a, z, .slice e 1 ea eb⟩ ⟨bk, nt⟩ (.sl id 0 1 8) (.sl id' off 1 8) = some (.int .i64 8, ⟨upd bk id (some ⟨numL N, f⟩), nt⟩) := by
  have hsrc : srcA 1 ⟨bk, nt⟩ (.sl id' off 1 8) = some (8, numL N) := by
    simp [srcA, hs, hw, he]
  rw [copy_all hb (by simp) hsrc (Nat.le_refl _) (leaf_numL N)]
  have : (numL N).take (8 * 1) = numL N := List.take_of_length_le (by simp)
  simp [this, List.drop_of_length_le]
theorem mul (A B : Nat) (hA : A < W) (hB : B < W) : ASpec Try.prog 59 [num A, num B] (.tup [num (A * B % W), num (A * B / W)]) := by
  rw [num_mod]
  refine ASpec.start 1000 Try.func59 (fn := Try.f59) rfl (by decide) mixed (by kernel_rfl) (by simp) ?_
  simp (disch := omega) [ini, upd_eq, tyNum, tyWide]
  refine goT_count (fun i => [(2, .ptr 0 0), (3, .ptr 1 0), (4, .ptr 2 0), (5, .ptr 3 0), (6, .ptr 4 0), (13, num A), (14, .int .i64 (i : Nat))])
    (fun i => [(0, ⟨numL A, true⟩), (1, ⟨numL B, true⟩), (2, ⟨numL 0, true⟩), (3, ⟨numL 0, true⟩), (4, ⟨wide (pp A B i), true⟩)]) 5 8 ?_ ?_ ?_
  · intro i hi IH
    refine goT_round mixed 100 ?_
    simp (disch := omega) [st_eq, upd_eq, tyNum, show (i : Int) < 8 by omega, numL_get hi]
    refine goT_count (fun k => [(2, .ptr 0 0), (3, .ptr 1 0), (4, .ptr 2 0), (5, .ptr 3 0), (6, .ptr 4 0), (13, num A), (14, .int .i64 (i : Nat)), (7, .int .i64 (i : Nat)), (8, limbA A i), (9, .int .u64 (mcar (limb A i) B (pp A B i / 2 ^ (32 * i)) k : Nat)), (18, num B), (19, .int .i64 (k : Nat))])
      (fun k => [(0, ⟨numL A, true⟩), (1, ⟨numL B, true⟩), (2, ⟨numL 0, true⟩), (3, ⟨numL 0, true⟩), (4, ⟨mulL A B i k, true⟩)]) 5 8 ?_ ?_ ?_
    · intro k hk IH'
      refine goT_round mixed 100 ?_
      have hs := mcar_step (limb A i) B (pp A B i / 2 ^ (32 * i)) k
      have hc := mcar_lt (a := limb A i) (B := B) (Y := pp A B i / 2 ^ (32 * i)) (k := k) (limb_lt _ _)
      have hc1 := mcar_lt (a := limb A i) (B := B) (Y := pp A B i / 2 ^ (32 * i)) (k := k + 1) (limb_lt _ _)
      have hg := mulL_get (A := A) (B := B) hi hk
      have hset := mulL_set (A := A) (B := B) (i := i) (k := k) rfl
      have ha := limb_lt A i
      have hb := limb_lt B k
      have hy := limb_lt (pp A B i / 2 ^ (32 * i)) k
      have ht := limb_lt (limb A i * B + pp A B i / 2 ^ (32 * i)) k
      have hm : limb A i * limb B k ≤ 4294967295 * 4294967295 := Nat.mul_le_mul (by omega) (by omega)
      have e0 : (limb A i : Int) * limb B k = (limb A i * limb B k : Nat) := rfl
      generalize limb A i * limb B k = m at *
      have e1 : ((m : Int) + limb (pp A B i / 2 ^ (32 * i)) k + mcar (limb A i) B (pp A B i / 2 ^ (32 * i)) k) % 4294967296 = limb (limb A i * B + pp A B i / 2 ^ (32 * i)) k := by omega
      have e2 : ((m : Int) + limb (pp A B i / 2 ^ (32 * i)) k + mcar (limb A i) B (pp A B i / 2 ^ (32 * i)) k) / 4294967296 = mcar (limb A i) B (pp A B i / 2 ^ (32 * i)) (k + 1) := by omega
      have e3 : ((i : Int) + k).toNat = i + k := by omega
      simp (disch := omega) [st_eq, upd_eq, tyNum, tyU32, tyU64, tyWide, show (k : Int) < 8 by omega, numL_get hk, limbA_def, in_u64, in_i64, w_u32, binA_shr, e0, e3, hg, show (i : Int) + k < 16 by omega, show 0 ≤ (i : Int) + k by omega, show i + k < 16 by omega, e1, e2, store_int]
      refine IH' _ ⟨?_, ?_⟩
      · simp [upd_eq, refsLt, limbA_def]
      · simp [upd_eq]
        exact hset
    · refine goT_round mixed 100 ?_
      have hc := mcar_lt (a := limb A i) (B := B) (Y := pp A B i / 2 ^ (32 * i)) (k := 8) (limb_lt _ _)
      have hset := mulL_last (A := A) (B := B) (i := i) hB
      have e3 : ((i : Int) + 8).toNat = i + 8 := by omega
      simp (disch := omega) [st_eq, upd_eq, tyNum, tyU32, tyU64, tyWide, in_u32, in_i64, e3, show (i : Int) + 8 < 16 by omega, show 0 ≤ (i : Int) + 8 by omega, show i + 8 < 16 by omega, store_int, hset]
      exact IH _ ⟨by simp [upd_eq, refsLt], by simp [upd_eq]⟩
    · exact ⟨by simp [upd_eq, refsLt, limbA_def, mcar_zero], by simp [upd_eq, mulL_zero]⟩
  · refine goT_round mixed 100 ?_
    rw [pp_all hA]
    simp (disch := omega) [st_eq, upd_eq, tyNum, tyWide]
    have hlo := wide_lo (A * B)
    have hhi := wide_hi (A * B)
    rw [tyU32s, Option.bind_some, copy_num (M := 0) (N := A * B) (f := true) (f' := true) (w := wide (A * B)) (by simp) (by simp) (by simp) (by simp [hlo])]
    simp (disch := omega) [upd_eq, tyNum, tyWide, winA_mid]
    rw [tyU32s, Option.bind_some, copy_num (M := 0) (N := A * B / W) (f := true) (f' := true) (w := wide (A * B)) (by simp [upd_eq]) (by simp [upd_eq]) (by simp) (by rw [hhi]; exact List.take_of_length_le (by simp))]
    simp (disch := omega) [upd_eq, tyNum, resA_L Try.results59]
  · exact ⟨by simp [upd_eq, refsLt], by simp [upd_eq, wide_zero (A := A) (B := B)]⟩
end Go.Proofs.Ytgefihgogfkjoaa

/-! The document's products. -/
namespace Go.Proofs.Ytgefihgogfkjoaa
open Go.Am

theorem wide_get {N i : Nat} (h : i < 16) : (wide N)[i]? = some (limbA N i) := famL_get _ _ _ h
theorem rmul (A B : Nat) (hA : A < W) (hB : B < W) : ASpec Try.prog 68 [num A, num B] (.tup [num (A * B % W), num (A * B / W)]) := by
  rw [num_mod]
  refine ASpec.startX [17, 18] 1000 Try.func68 (fn := Try.f68) rfl (by decide) mixed (by kernel_rfl) (by simp) ?_
  simp (disch := omega) [ini, upd_eq, tyNum, tyWide]
  refine goT_count (fun i => [(2, .ptr 0 0), (3, .ptr 1 0), (4, .ptr 2 0), (5, .ptr 3 0), (6, .ptr 4 0), (7, .int .i64 (i : Nat))])
    (fun i => [(0, ⟨numL A, true⟩), (1, ⟨numL B, true⟩), (2, ⟨numL 0, true⟩), (3, ⟨numL 0, true⟩), (4, ⟨wide (pp A B i), true⟩)]) 5 8 ?_ ?_ ?_
  · intro i hi IH
    refine goT_round mixed 100 ?_
    simp (disch := omega) [st_eq, upd_eq, show (i : Int) < 8 by omega]
    refine goT_count (fun k => [(2, .ptr 0 0), (3, .ptr 1 0), (4, .ptr 2 0), (5, .ptr 3 0), (6, .ptr 4 0), (7, .int .i64 (i : Nat)), (8, .int .u64 (mcar (limb A i) B (pp A B i / 2 ^ (32 * i)) k : Nat)), (9, .int .i64 (k : Nat))])
      (fun k => [(0, ⟨numL A, true⟩), (1, ⟨numL B, true⟩), (2, ⟨numL 0, true⟩), (3, ⟨numL 0, true⟩), (4, ⟨mulL A B i k, true⟩)]) 5 8 ?_ ?_ ?_
    · intro k hk IH'
      refine goT_round mixed 100 ?_
      have hs := mcar_step (limb A i) B (pp A B i / 2 ^ (32 * i)) k
      have hc := mcar_lt (a := limb A i) (B := B) (Y := pp A B i / 2 ^ (32 * i)) (k := k) (limb_lt _ _)
      have hc1 := mcar_lt (a := limb A i) (B := B) (Y := pp A B i / 2 ^ (32 * i)) (k := k + 1) (limb_lt _ _)
      have hg := mulL_get (A := A) (B := B) hi hk
      have hset := mulL_set (A := A) (B := B) (i := i) (k := k) rfl
      have ha := limb_lt A i
      have hb := limb_lt B k
      have hy := limb_lt (pp A B i / 2 ^ (32 * i)) k
      have ht := limb_lt (limb A i * B + pp A B i / 2 ^ (32 * i)) k
      have hm : limb A i * limb B k ≤ 4294967295 * 4294967295 := Nat.mul_le_mul (by omega) (by omega)
      have e0 : (limb A i : Int) * limb B k = (limb A i * limb B k : Nat) := rfl
      generalize limb A i * limb B k = m at *
      have e1 : ((mcar (limb A i) B (pp A B i / 2 ^ (32 * i)) k : Int) + m + limb (pp A B i / 2 ^ (32 * i)) k) % 4294967296 = limb (limb A i * B + pp A B i / 2 ^ (32 * i)) k := by omega
      have e2 : ((mcar (limb A i) B (pp A B i / 2 ^ (32 * i)) k : Int) + m + limb (pp A B i / 2 ^ (32 * i)) k) / 4294967296 = mcar (limb A i) B (pp A B i / 2 ^ (32 * i)) (k + 1) := by omega
      have e3 : ((i : Int) + k).toNat = i + k := by omega
      simp (disch := omega) [st_eq, upd_eq, tyNum, tyU32, tyU64, tyWide, show (i : Int) < 8 by omega, show (k : Int) < 8 by omega, numL_get hk, numL_get hi, limbA_def, in_u64, in_i64, w_u32, binA_shr, e0, e3, hg, show (i : Int) + k < 16 by omega, show 0 ≤ (i : Int) + k by omega, show i + k < 16 by omega, e1, e2, store_int]
      refine IH' _ ⟨?_, ?_⟩
      · simp [upd_eq, refsLt]
      · simp [upd_eq]
        exact hset
    · refine goT_round mixed 100 ?_
      have hc := mcar_lt (a := limb A i) (B := B) (Y := pp A B i / 2 ^ (32 * i)) (k := 8) (limb_lt _ _)
      have hset := mulL_last (A := A) (B := B) (i := i) hB
      have e3 : ((i : Int) + 8).toNat = i + 8 := by omega
      simp (disch := omega) [st_eq, upd_eq, tyNum, tyU32, tyU64, tyWide, in_u32, in_i64, e3, show (i : Int) + 8 < 16 by omega, show 0 ≤ (i : Int) + 8 by omega, show i + 8 < 16 by omega, store_int, hset]
      exact IH _ ⟨by simp [upd_eq, refsLt], by simp [upd_eq]⟩
    · exact ⟨by simp [upd_eq, refsLt, mcar_zero], by simp [upd_eq, mulL_zero]⟩
  · refine goT_round mixed 100 ?_
    rw [pp_all hA]
    simp (disch := omega) [st_eq, upd_eq, tyNum, tyWide]
    refine goT_count (fun i => [(4, .ptr 2 0), (5, .ptr 3 0), (6, .ptr 4 0), (10, .ptr 5 0), (11, .ptr 6 0), (12, .int .i64 (i : Nat))])
      (fun i => [(2, ⟨numL 0, true⟩), (3, ⟨numL 0, true⟩), (4, ⟨wide (A * B), true⟩), (5, ⟨mixN (A * B) 0 i, true⟩), (6, ⟨mixN (A * B / W) 0 i, true⟩)]) 7 8 ?_ ?_ ?_
    · intro i hi IH
      refine goT_round mixed 100 ?_
      have e3 : ((i : Int) + 8).toNat = i + 8 := by omega
      have hup : limb (A * B) (i + 8) = limb (A * B / W) i := by rw [Nat.add_comm, limb_up]; rfl
      have hg := wide_get (N := A * B) (i := i) (by omega)
      have hg2 := wide_get (N := A * B) (i := i + 8) (by omega)
      simp (disch := omega) [st_eq, upd_eq, show (i : Int) < 8 by omega]
      refine goT_region2 mixed [(63, 65)] 100 (by kernel_rfl) ?_
      simp (disch := omega) [st_eq, upd_eq, tyNum, tyU32, tyWide, in_i64, e3, show (i : Int) < 8 by omega, show (i : Int) < 16 by omega, show (i : Int) + 8 < 16 by omega, show 0 ≤ (i : Int) + 8 by omega, hi, hg, hg2, limbA_def, hup, store_int]
      refine ⟨by simp [dynOk, ptrNe, upd_eq], IH _ ⟨?_, ?_⟩⟩
      · simp [upd_eq, refsLt]
      · simp [upd_eq]
        exact ⟨mixN_set rfl, mixN_set rfl⟩
    · refine goT_round mixed 100 ?_
      simp (disch := omega) [st_eq, upd_eq]
      refine goT_region2 mixed [(11, 4)] 100 (by kernel_rfl) ?_
      simp (disch := omega) [dynOk, ptrNe, upd_eq, tyNum, resA_L Try.results68]
    · exact ⟨by simp [upd_eq, refsLt], by simp [upd_eq]⟩
  · exact ⟨by simp [upd_eq, refsLt], by simp [upd_eq, wide_zero (A := A) (B := B)]⟩
end Go.Proofs.Ytgefihgogfkjoaa

/-! Numbers as bytes: limb and the document. -/
namespace Go.Proofs.Ytgefihgogfkjoaa
open Go.Am

theorem byte_ex : ∃ f : Nat → Nat → Nat, ∀ N j, f N j = N / 2 ^ (8 * j) % 256 := ⟨_, fun _ _ => rfl⟩
/-- byte j of a number, from below -/
noncomputable def byteN : Nat → Nat → Nat := Classical.choose byte_ex
theorem byteN_def (N j : Nat) : byteN N j = N / 2 ^ (8 * j) % 256 := Classical.choose_spec byte_ex N j
theorem byteN_lt (N j : Nat) : byteN N j < 256 := by rw [byteN_def]; exact Nat.mod_lt _ (by decide)
theorem byte_limb (N i j : Nat) (hj : j < 4) : limb N i / 2 ^ (8 * j) % 256 = byteN N (4 * i + j) := by
  rw [limb_def, byteN_def, show 8 * (4 * i + j) = 32 * i + 8 * j by omega, Nat.pow_add, ← Nat.div_div_eq_div_mul]
  generalize N / 2 ^ (32 * i) = x
  rcases (by omega : j = 0 ∨ j = 1 ∨ j = 2 ∨ j = 3) with rfl | rfl | rfl | rfl <;> simp <;> omega
/-- its bytes, the highest first -/
noncomputable def byteF (N j : Nat) : AV := .int .u8 (byteN N (31 - j) : Nat)
noncomputable def bytesL (N : Nat) : List AV := famL (byteF N) 32
theorem bytes_step (N i : Nat) (hi : i < 8) : famL (byteF N) (4 * (7 - i)) ++ [.int .u8 ((limb N i : Int) / 16777216 % 256), .int .u8 ((limb N i : Int) / 65536 % 256), .int .u8 ((limb N i : Int) / 256 % 256), .int .u8 ((limb N i : Int) % 256)] = famL (byteF N) (4 * (7 - i) + 4) := by
  have h0 := byte_limb N i 0 (by omega)
  have h1 := byte_limb N i 1 (by omega)
  have h2 := byte_limb N i 2 (by omega)
  have h3 := byte_limb N i 3 (by omega)
  simp only [Nat.mul_zero, Nat.pow_zero, Nat.div_one, Nat.mul_one, show 8 * 2 = 16 from rfl, show 8 * 3 = 24 from rfl, show (2 : Nat) ^ 8 = 256 from rfl, show (2 : Nat) ^ 16 = 65536 from rfl, show (2 : Nat) ^ 24 = 16777216 from rfl] at h0 h1 h2 h3
  rw [famL_succ, famL_succ, famL_succ, famL_succ]
  simp only [List.append_assoc, List.cons_append, List.nil_append, byteF]
  rw [show 31 - 4 * (7 - i) = 4 * i + 3 by omega, show 31 - (4 * (7 - i) + 1) = 4 * i + 2 by omega, show 31 - (4 * (7 - i) + 1 + 1) = 4 * i + 1 by omega, show 31 - (4 * (7 - i) + 1 + 1 + 1) = 4 * i + 0 by omega]
  simp only [Nat.add_zero] at *
  rw [← h0, ← h1, ← h2, ← h3]
  rfl
theorem leaf_four (x0 x1 x2 x3 : Int) : [AV.int .u8 x0, .int .u8 x1, .int .u8 x2, .int .u8 x3].all leafOk = true := rfl
theorem zOkU8 : zOk Try.prog 5 1 = true := by kernel_rfl
theorem noRefs_byteF (N n : Nat) : noRefs (famL (byteF N) n) = true := noRefs_famL fun _ _ => rfl
theorem refsLts_byteF (m N n : Nat) : refsLts m (famL (byteF N) n) = true := refsLts_famL fun _ _ => rfl

theorem rens_byteF (ρ : Nat → Nat) (N n : Nat) : rens ρ (famL (byteF N) n) = famL (byteF N) n := rens_famL fun _ _ => rfl

theorem rbytes (A : Nat) : ASpec Try.prog 34 [num A] (.ro 32 (bytesL A)) := by
  refine ASpec.start 1000 Try.func34 (fn := Try.f34) rfl (by decide) mixed (by kernel_rfl) (by simp) ?_
  simp (disch := omega) [ini, upd_eq]
  refine goT_round mixed 100 ?_
  simp (disch := omega) [upd_eq, tyU32, tyNum, tyU8, tyBytes, numL_get, limbA_def, binA_shr, w_u8, build4 tyU8 rfl rfl]
  simp (disch := omega) [upd_eq, appendA, appendB, srcA, zOkU8, leafOk, HP.add, tyInt, in_i64]
  have h0 : [AV.int .u8 ((limb A 7 : Int) / 16777216 % 256), .int .u8 ((limb A 7 : Int) / 65536 % 256), .int .u8 ((limb A 7 : Int) / 256 % 256), .int .u8 ((limb A 7 : Int) % 256)] = famL (byteF A) 4 := bytes_step A 7 (by omega)
  refine goT_downR (X := Nat) (fun i => i) (fun i => [(1, .ptr 0 0), (3, .sl 1 0 1 (4 * (8 - i))), (4, .int .i64 ((i : Int) - 1))]) (fun i => [(0, ⟨numL A, true⟩), (1, ⟨famL (byteF A) (4 * (8 - i)), false⟩)]) 2
    (fun i => i ≤ 7) ?_ 7 (fun k => if k = 1 then 2 else k) (Nat.le_refl _) ?_
  · intro i hi IH
    refine goT_round mixed 100 ?_
    cases i with
    | zero =>
      have hv : view ⟨bkl [(0, ⟨numL A, true⟩), (1, ⟨famL (byteF A) 32, false⟩)], 2⟩ (.sl 1 0 1 32) = .ro 32 (bytesL A) := by
        rw [view_sl (cs := famL (byteF A) 32) (f := false) (by simp) (by simp) (noRefs_byteF _ _)]
        simp [bytesL, List.take_of_length_le]
      simp (disch := omega) [st_eq, upd_eq, resA_L Try.results34, hv]
    | succ i =>
      have hi8 : i < 8 := by omega
      have hb := bytes_step A i hi8
      have e : 4 * (8 - i) = 4 * (7 - i) + 4 := by omega
      simp (disch := omega) [st_eq, upd_eq, tyU32, tyNum, tyU8, tyBytes, show (i : Int) < 8 by omega, numL_get, limbA_def, binA_shr, w_u8, build4 tyU8 rfl rfl]
      simp (disch := omega) [upd_eq, appendA, appendB, srcA, zOkU8, leafOk, HP.move, tyInt, in_i64, show 4 * (7 - i) ≤ 70368744177660 by omega, show 4 * (7 - i) ≤ 4611686018427387900 by omega]
      refine IH i _ (fun k => if k = 1 then 3 else k) (by omega) (by omega) ⟨?_, ?_, ?_⟩
      · simp [upd_eq, ren, refsLt, e]
      · simp [upd_eq, e, refsLts_byteF, rens_byteF, List.take_of_length_le, hb]
      · simp
  · refine ⟨?_, ?_, ?_⟩
    · simp [upd_eq, ren, refsLt]
    · simp [upd_eq, ← h0]
      exact ⟨rfl, rfl⟩
    · simp

theorem bytes (A : Nat) : ASpec Try.prog 81 [num A] (.ro 32 (bytesL A)) := by
  refine ASpec.start 1000 Try.func81 (fn := Try.f81) rfl (by decide) mixed (by kernel_rfl) (by simp) ?_
  simp (disch := omega) [ini, upd_eq, tyBytes, makeA, tyU8, HP.add, zerosA]
  refine goT_round mixed 100 ?_
  simp (disch := omega) [upd_eq, tyU32, tyNum, tyU8, tyBytes, numL_get, limbA_def, binA_shr, w_u8, build4 tyU8 rfl rfl]
  simp (disch := omega) [upd_eq, appendA, appendB, srcA, zOkU8, leafOk, HP.move, tyInt, in_i64]
  have h0 : [AV.int .u8 ((limb A 7 : Int) / 16777216 % 256), .int .u8 ((limb A 7 : Int) / 65536 % 256), .int .u8 ((limb A 7 : Int) / 256 % 256), .int .u8 ((limb A 7 : Int) % 256)] = famL (byteF A) 4 := bytes_step A 7 (by omega)
  refine goT_downR (X := Nat) (fun i => i) (fun i => [(1, .ptr 0 0), (3, .sl 1 0 1 (4 * (8 - i))), (4, .int .i64 ((i : Int) - 1))]) (fun i => [(0, ⟨numL A, true⟩), (1, ⟨famL (byteF A) (4 * (8 - i)), false⟩)]) 2
    (fun i => i ≤ 7) ?_ 7 (fun k => if k = 1 then 3 else k) (Nat.le_refl _) ?_
  · intro i hi IH
    refine goT_round mixed 100 ?_
    cases i with
    | zero =>
      have hv : view ⟨bkl [(0, ⟨numL A, true⟩), (1, ⟨famL (byteF A) 32, false⟩)], 2⟩ (.sl 1 0 1 32) = .ro 32 (bytesL A) := by
        rw [view_sl (cs := famL (byteF A) 32) (f := false) (by simp) (by simp) (noRefs_byteF _ _)]
        simp [bytesL, List.take_of_length_le]
      simp (disch := omega) [st_eq, upd_eq, resA_L Try.results81, hv, tyBytes]
    | succ i =>
      have hi8 : i < 8 := by omega
      have hb := bytes_step A i hi8
      have e : 4 * (8 - i) = 4 * (7 - i) + 4 := by omega
      simp (disch := omega) [st_eq, upd_eq, tyU32, tyNum, tyU8, tyBytes, show (i : Int) < 8 by omega, numL_get, limbA_def, binA_shr, w_u8, build4 tyU8 rfl rfl]
      simp (disch := omega) [upd_eq, appendA, appendB, srcA, zOkU8, leafOk, HP.move, tyInt, in_i64, show 4 * (7 - i) ≤ 70368744177660 by omega, show 4 * (7 - i) ≤ 4611686018427387900 by omega]
      refine IH i _ (fun k => if k = 1 then 3 else k) (by omega) (by omega) ⟨?_, ?_, ?_⟩
      · simp [upd_eq, ren, refsLt, e]
      · simp [upd_eq, e, refsLts_byteF, rens_byteF, List.take_of_length_le, hb]
      · simp
  · refine ⟨?_, ?_, ?_⟩
    · simp [upd_eq, ren, refsLt]
    · simp [upd_eq, ← h0]
      exact ⟨rfl, rfl⟩
    · simp
end Go.Proofs.Ytgefihgogfkjoaa

/-! Bytes as numbers: limb and the document. -/
namespace Go.Proofs.Ytgefihgogfkjoaa
open Go.Am

theorem or_add {x r k : Nat} (hx : x % 2 ^ k = 0) (hr : r < 2 ^ k) : x ||| r = x + r := by
  have : x = 2 ^ k * (x / 2 ^ k) := by have := Nat.div_add_mod x (2 ^ k); omega
  rw [this, Nat.two_pow_add_eq_or_of_lt hr]
/-- A byte put under what has nothing there. -/
theorem put_byte {P b q j : Nat} (hj : j < 4) (hb : b < 256) (hP : P % 2 ^ (32 * q + 8 * (j + 1)) = 0) :
    limb P q ||| b * 2 ^ (8 * j) = limb (P + b * 2 ^ (32 * q + 8 * j)) q ∧ ∀ i, i ≠ q → limb (P + b * 2 ^ (32 * q + 8 * j)) i = limb P i := by
  have hr : b * 2 ^ (8 * j) < 2 ^ (8 * (j + 1)) := by
    rw [show 8 * (j + 1) = 8 + 8 * j by omega, Nat.pow_add]
    exact Nat.mul_lt_mul_of_pos_right (by simpa using hb) (Nat.two_pow_pos _)
  have hsum : P + b * 2 ^ (32 * q + 8 * j) = P + 2 ^ (32 * q) * (b * 2 ^ (8 * j)) := by
    rw [Nat.pow_add, Nat.mul_left_comm]
  have hp2 := Nat.two_pow_pos (32 * q)
  have hq0 : P / 2 ^ (32 * q) % 2 ^ (8 * (j + 1)) = 0 := by
    rw [← Nat.mod_mul_right_div_self, ← Nat.pow_add, hP, Nat.zero_div]
  have hdiv : (P + 2 ^ (32 * q) * (b * 2 ^ (8 * j))) / 2 ^ (32 * q) = P / 2 ^ (32 * q) + b * 2 ^ (8 * j) := Nat.add_mul_div_left _ _ hp2
  generalize hr' : b * 2 ^ (8 * j) = r at *
  rw [hsum]
  have h32 : (2 : Nat) ^ 32 = 2 ^ (8 * (j + 1)) * 2 ^ (24 - 8 * j) := by rw [← Nat.pow_add]; congr 1; omega
  have hT := Nat.two_pow_pos (8 * (j + 1))
  have hhi : (P / 2 ^ (32 * q) + r) / 2 ^ 32 = P / 2 ^ (32 * q) / 2 ^ 32 := by
    rw [h32, ← Nat.div_div_eq_div_mul, ← Nat.div_div_eq_div_mul]
    congr 1
    have h1 := Nat.div_add_mod (P / 2 ^ (32 * q)) (2 ^ (8 * (j + 1)))
    rw [hq0, Nat.add_zero] at h1
    rw [← h1, Nat.mul_add_div hT, Nat.div_eq_of_lt hr, Nat.mul_div_cancel_left _ hT]
    rfl
  refine ⟨?_, fun i hi => ?_⟩
  · rw [limb_def, limb_def, hdiv]
    have hm : P / 2 ^ (32 * q) % 2 ^ 32 % 2 ^ (8 * (j + 1)) = 0 := by
      rw [h32, Nat.mod_mul_right_mod, hq0]
    rw [or_add hm hr]
    have h1 := Nat.div_add_mod (P / 2 ^ (32 * q)) (2 ^ 32)
    have h2 := Nat.div_add_mod (P / 2 ^ (32 * q) + r) (2 ^ 32)
    rw [hhi] at h2
    omega
  · rcases Nat.lt_or_gt_of_ne hi with h | h
    · exact limb_below h
    · simp only [limb_def]
      congr 1
      have e : 2 ^ (32 * i) = 2 ^ (32 * q) * (2 ^ 32 * 2 ^ (32 * (i - q - 1))) := by
        rw [← Nat.pow_add, ← Nat.pow_add]; congr 1; omega
      rw [e, ← Nat.div_div_eq_div_mul, hdiv, ← Nat.div_div_eq_div_mul, hhi, ← Nat.div_div_eq_div_mul, ← Nat.div_div_eq_div_mul]
theorem put_set {P b q j : Nat} {v : Int} (hj : j < 4) (hb : b < 256) (hP : P % 2 ^ (32 * q + 8 * (j + 1)) = 0) (hv : v = ((limb P q ||| b * 2 ^ (8 * j) : Nat) : Int)) :
    (numL P).set q (.int .u32 v) = numL (P + b * 2 ^ (32 * q + 8 * j)) := by
  obtain ⟨h1, h2⟩ := put_byte hj hb hP
  subst hv
  unfold numL
  rw [famL_set]
  refine famL_congr fun i _ => ?_
  unfold upd
  by_cases h : i = q
  · subst h; simp only [if_true, limbA, h1]
  · simp only [h, if_false, limbA, h2 i h]
/-- what stands when i bytes of n are read -/
def rdV (f : Nat → Nat) (n i : Nat) : Nat := beV f i * 2 ^ (8 * (n - i))
theorem rdV_step {f : Nat → Nat} {n i : Nat} (h : i < n) : rdV f n (i + 1) = rdV f n i + f i * 2 ^ (8 * (n - 1 - i)) := by
  unfold rdV
  rw [beV, show 8 * (n - i) = 8 + 8 * (n - 1 - i) by omega, Nat.pow_add, show n - (i + 1) = n - 1 - i by omega, Nat.add_mul, ← Nat.mul_assoc, show (2 : Nat) ^ 8 = 256 from rfl, Nat.mul_comm 256]
theorem rdV_all (f : Nat → Nat) (n : Nat) : rdV f n n = beV f n := by simp [rdV]
theorem rdV_mod {f : Nat → Nat} {n i : Nat} (h : i < n) : rdV f n i % 2 ^ (8 * (n - 1 - i) + 8) = 0 := by
  unfold rdV
  rw [show 8 * (n - i) = 8 * (n - 1 - i) + 8 by omega]
  exact Nat.mul_mod_left _ _

theorem read (f : Nat → Nat) (n : Nat) (hf : ∀ i, i < n → f i < 256) : ASpec Try.prog 110 [.ro n (famL (u8F f) n)] (.tup [num (if n ≤ 32 then beV f n else 0), .bool (decide (n ≤ 32))]) := by
  refine ASpec.start 1000 Try.func110 (fn := Try.f110) rfl (by decide) mixed (by kernel_rfl) (by simp) ?_
  by_cases hn : n ≤ 32
  · simp (disch := omega) [ini, upd_eq, tyNum, tyBytes, lenA, show ¬ (32 : Int) < n by omega]
    refine goT_count (fun i => [(0, .ro n (famL (u8F f) n)), (2, .ptr 0 0), (4, .ptr 1 0), (12, .ro n (famL (u8F f) n)), (13, .int .i64 (n : Nat)), (14, .int .i64 (i : Nat))]) (fun i => [(0, ⟨numL 0, true⟩), (1, ⟨numL (rdV f n i), true⟩)]) 2 n ?_ ?_ ?_
    · intro i hi IH
      refine goT_round mixed 100 ?_
      have hfi := hf i hi
      have hg : (famL (u8F f) n)[i]? = some (u8F f i) := famL_get _ _ _ hi
      have hat : ((n : Int) - 1 - i) = ((n - 1 - i : Nat) : Int) := by omega
      have hne : ¬ famL (u8F f) n = [] := fun h => by have := congrArg List.length h; simp at this; omega
      have hg' : (famL (u8F f) n)[i]? = some (.int .u8 (f i : Nat)) := hg
      obtain ⟨t, ht⟩ : ∃ t, t = n - 1 - i := ⟨_, rfl⟩
      have hst := rdV_step (f := f) hi
      have hmd := rdV_mod (f := f) hi
      rw [← ht] at hat hst hmd
      have htl : t < 32 := by omega
      have hq : t / 4 < 8 := by omega
      have hput := put_set (P := rdV f n i) (b := f i) (q := t / 4) (j := t % 4) (Nat.mod_lt _ (by decide)) hfi (by rw [show 32 * (t / 4) + 8 * (t % 4 + 1) = 8 * t + 8 by omega]; exact hmd) rfl
      rw [show 32 * (t / 4) + 8 * (t % 4) = 8 * t by omega, ← hst] at hput
      have hl := limb_lt (rdV f n i) (t / 4)
      have hsh : f i * 2 ^ (8 * (t % 4)) < 4294967296 := by
        have h1 : f i * 2 ^ (8 * (t % 4)) < 2 ^ 8 * 2 ^ (8 * (t % 4)) := Nat.mul_lt_mul_of_pos_right (by simpa using hfi) (Nat.two_pow_pos _)
        rw [← Nat.pow_add] at h1
        exact Nat.lt_of_lt_of_le h1 (Nat.pow_le_pow_right (show 0 < 2 by decide) (show 8 + 8 * (t % 4) ≤ 32 by omega))
      have hbor := bor32 hl hsh
      have e2 : ((t : Int) / 4).toNat = t / 4 := by omega
      have e3 : (8 * ((t : Int) % 4)).toNat = 8 * (t % 4) := by omega
      have e4 : min (8 * (t % 4)) 32 = 8 * (t % 4) := by omega
      have e5 : (f i : Int) * 2 ^ (8 * (t % 4)) = ((f i * 2 ^ (8 * (t % 4)) : Nat) : Int) := by simp
      have hset : (numL (rdV f n i)).set (t / 4) (.int .u32 (bitsA .or .u32 (limb (rdV f n i) (t / 4)) ((f i : Int) * 2 ^ (8 * (t % 4))))) = numL (rdV f n (i + 1)) := by rw [e5, hbor]; exact hput
      have hw : IntKind.u32.wrap ((f i : Int) * 2 ^ (8 * (t % 4))) = (f i : Int) * 2 ^ (8 * (t % 4)) := by rw [e5]; exact in_u32 (by omega) (by omega)
      simp (disch := omega) [st_eq, upd_eq, tyNum, tyBytes, tyU8, tyU32, lenA, show (i : Int) < n by omega, hg', in_i64, hne, hat, binA_quo, binA_rem, binA_shl, in_u32, e2, e3, e4, numL_get, limbA_def, hq, show (t : Int) / 4 < 8 by omega, show 0 ≤ (t : Int) / 4 by omega, hw, store_int, hset]
      exact IH _ ⟨by simp [upd_eq, refsLt], by simp [upd_eq]⟩
    · refine goT_round mixed 100 ?_
      simp (disch := omega) [st_eq, upd_eq, tyNum, rdV_all, hn, resA_L Try.results110]
    · exact ⟨by simp [upd_eq, refsLt, refsLts_u8F], by simp [upd_eq, rdV, beV]⟩
  · simp (disch := omega) [ini, upd_eq, tyNum, tyBytes, lenA, show (32 : Int) < n by omega, hn, resA_L Try.results110]

theorem rread (f : Nat → Nat) (n : Nat) (hf : ∀ i, i < n → f i < 256) : ASpec Try.prog 103 [.ro n (famL (u8F f) n)] (.tup [num (if n ≤ 32 then beV f n else 0), .bool (decide (n ≤ 32))]) := by
  refine ASpec.start 1000 Try.func103 (fn := Try.f103) rfl (by decide) mixed (by kernel_rfl) (by simp) ?_
  by_cases hn : n ≤ 32
  · simp (disch := omega) [ini, upd_eq, tyNum, tyBytes, lenA, show ¬ (32 : Int) < n by omega]
    refine goT_count (fun i => [(0, .ro n (famL (u8F f) n)), (2, .ptr 0 0), (4, .ptr 1 0), (5, .int .i64 (i : Nat))]) (fun i => [(0, ⟨numL 0, true⟩), (1, ⟨numL (rdV f n i), true⟩)]) 2 n ?_ ?_ ?_
    · intro i hi IH
      refine goT_round mixed 100 ?_
      have hfi := hf i hi
      have hg : (famL (u8F f) n)[i]? = some (u8F f i) := famL_get _ _ _ hi
      have hat : ((n : Int) - 1 - i) = ((n - 1 - i : Nat) : Int) := by omega
      have hne : ¬ famL (u8F f) n = [] := fun h => by have := congrArg List.length h; simp at this; omega
      have hg' : (famL (u8F f) n)[i]? = some (.int .u8 (f i : Nat)) := hg
      obtain ⟨t, ht⟩ : ∃ t, t = n - 1 - i := ⟨_, rfl⟩
      have hst := rdV_step (f := f) hi
      have hmd := rdV_mod (f := f) hi
      rw [← ht] at hat hst hmd
      have htl : t < 32 := by omega
      have hq : t / 4 < 8 := by omega
      have hput := put_set (P := rdV f n i) (b := f i) (q := t / 4) (j := t % 4) (Nat.mod_lt _ (by decide)) hfi (by rw [show 32 * (t / 4) + 8 * (t % 4 + 1) = 8 * t + 8 by omega]; exact hmd) rfl
      rw [show 32 * (t / 4) + 8 * (t % 4) = 8 * t by omega, ← hst] at hput
      have hl := limb_lt (rdV f n i) (t / 4)
      have hsh : f i * 2 ^ (8 * (t % 4)) < 4294967296 := by
        have h1 : f i * 2 ^ (8 * (t % 4)) < 2 ^ 8 * 2 ^ (8 * (t % 4)) := Nat.mul_lt_mul_of_pos_right (by simpa using hfi) (Nat.two_pow_pos _)
        rw [← Nat.pow_add] at h1
        exact Nat.lt_of_lt_of_le h1 (Nat.pow_le_pow_right (show 0 < 2 by decide) (show 8 + 8 * (t % 4) ≤ 32 by omega))
      have hbor := bor32 hl hsh
      have e2 : ((t : Int) / 4).toNat = t / 4 := by omega
      have e3 : (8 * ((t : Int) % 4)).toNat = 8 * (t % 4) := by omega
      have e4 : min (8 * (t % 4)) 32 = 8 * (t % 4) := by omega
      have e5 : (f i : Int) * 2 ^ (8 * (t % 4)) = ((f i * 2 ^ (8 * (t % 4)) : Nat) : Int) := by simp
      have hset : (numL (rdV f n i)).set (t / 4) (.int .u32 (bitsA .or .u32 (limb (rdV f n i) (t / 4)) ((f i : Int) * 2 ^ (8 * (t % 4))))) = numL (rdV f n (i + 1)) := by rw [e5, hbor]; exact hput
      have hw : IntKind.u32.wrap ((f i : Int) * 2 ^ (8 * (t % 4))) = (f i : Int) * 2 ^ (8 * (t % 4)) := by rw [e5]; exact in_u32 (by omega) (by omega)
      simp (disch := omega) [st_eq, upd_eq, tyNum, tyBytes, tyU8, tyU32, tyInt, tyUint, in_u64, lenA, show (i : Int) < n by omega, hg', in_i64, hne, hat, binA_quo, binA_rem, binA_shl, in_u32, e2, e3, e4, numL_get, limbA_def, hq, show (t : Int) / 4 < 8 by omega, show 0 ≤ (t : Int) / 4 by omega, hw, store_int, hset]
      exact IH _ ⟨by simp [upd_eq, refsLt], by simp [upd_eq]⟩
    · refine goT_round mixed 100 ?_
      simp (disch := omega) [st_eq, upd_eq, tyNum, tyBytes, lenA, rdV_all, hn, resA_L Try.results103]
    · exact ⟨by simp [upd_eq, refsLt, refsLts_u8F], by simp [upd_eq, rdV, beV]⟩
  · simp (disch := omega) [ini, upd_eq, tyNum, tyBytes, lenA, show (32 : Int) < n by omega, hn, resA_L Try.results103]
end Go.Proofs.Ytgefihgogfkjoaa

/-! The statements' own words: within, Make. -/
namespace Go.Proofs.Ytgefihgogfkjoaa
open Go.Am

theorem within (x y : Int) (hy : 0 < y) (hy2 : y < 9223372036854775808) : ASpec Try.prog 66 [.int .i64 x, .int .i64 y] (.int .i64 (x % y)) := by
  refine ASpec.start 1000 Try.func66 (fn := Try.f66) rfl (by decide) mixed (by kernel_rfl) (by simp) ?_
  have h := tmod_within (x := x) hy
  have h1 := Int.emod_nonneg x (show y ≠ 0 by omega)
  have h2 := Int.emod_lt_of_pos x hy
  by_cases hc : x.tmod y < 0
  · rw [if_pos hc] at h
    simp (disch := omega) [ini, upd_eq, binA_remZ, hc, h, in_i64, resA_L Try.results66]
  · rw [if_neg hc] at h
    simp (disch := omega) [ini, upd_eq, binA_remZ, show ¬ x % y < 0 by omega, h, resA_L Try.results66]

theorem beqF {x y : Int} (h : ¬ x = y) : (x == y) = false := by simpa using h
theorem beqT {x y : Int} (h : x = y) : (x == y) = true := by simpa using h
theorem bneT {x y : Int} (h : ¬ x = y) : (x != y) = true := by simpa using h
theorem bneF {x y : Int} (h : x = y) : (x != y) = false := by simpa using h
def i64F (f : Nat → Int) (i : Nat) : AV := .int .i64 (f i)
theorem refsLts_i64F (m : Nat) (f : Nat → Int) (n : Nat) : refsLts m (famL (i64F f) n) = true := refsLts_famL fun _ _ => rfl
theorem noRefs_i64F (f : Nat → Int) (n : Nat) : noRefs (famL (i64F f) n) = true := noRefs_famL fun _ _ => rfl

/-- a number of limbs -/
def ofL (g : Nat → Nat) : Nat → Nat
  | 0 => 0
  | k + 1 => ofL g k + 2 ^ (32 * k) * g k
theorem ofL_lt {g : Nat → Nat} (hg : ∀ i, g i < 4294967296) : ∀ k, ofL g k < 2 ^ (32 * k)
  | 0 => by simp [ofL]
  | k + 1 => by
    have h := ofL_lt hg k
    have h1 := hg k
    rw [ofL, show 32 * (k + 1) = 32 * k + 32 by omega, Nat.pow_add, show (2 : Nat) ^ 32 = 4294967296 from rfl]
    have : 2 ^ (32 * k) * (g k + 1) ≤ 2 ^ (32 * k) * 4294967296 := Nat.mul_le_mul_left _ (by omega)
    rw [Nat.mul_add] at this
    omega
theorem limb_ofL {g : Nat → Nat} (hg : ∀ i, g i < 4294967296) : ∀ k i, i < k → limb (ofL g k) i = g i
  | 0, _, h => by omega
  | k + 1, i, h => by
    rw [ofL]
    rcases Nat.lt_or_ge i k with h1 | h1
    · rw [limb_below h1, limb_ofL hg k i h1]
    · obtain rfl : i = k := by omega
      rw [limb_def, Nat.add_mul_div_left _ _ (Nat.two_pow_pos _), Nat.div_eq_of_lt (ofL_lt hg i), Nat.zero_add]
      exact Nat.mod_eq_of_lt (hg i)
def lbF (g : Nat → Nat) (i : Nat) : AV := .int .u32 (g i : Nat)
theorem lbF_num {g : Nat → Nat} (hg : ∀ i, g i < 4294967296) : famL (lbF g) 8 = numL (ofL g 8) :=
  famL_congr fun i hi => by rw [limbA, limb_ofL hg 8 i hi]; rfl

theorem wrap32_nat (z : Int) : ∃ n : Nat, n < 4294967296 ∧ IntKind.u32.wrap z = n := by
  rw [w_u32]
  exact ⟨(z % 4294967296).toNat, by omega, by omega⟩
theorem mod_toNat (x : Int) {y : Int} (h : 0 < y) : ((x % y).toNat : Int) = x % y := by
  have := Int.emod_nonneg x (show y ≠ 0 by omega); omega
noncomputable def mkX (x : Int) : Nat := (bitsA .xor .u32 (IntKind.u32.wrap x) (IntKind.u32.wrap (IntKind.u32.wrap (x / 4294967296) * 7))).toNat
theorem mkX_spec (x : Int) : mkX x < 4294967296 ∧ bitsA .xor .u32 (IntKind.u32.wrap x) (IntKind.u32.wrap (IntKind.u32.wrap (x / 4294967296) * 7)) = (mkX x : Int) := by
  obtain ⟨n, h1, h2⟩ := wrap32_nat ((BitVec.ofInt IntKind.u32.bits (IntKind.u32.wrap x)) ^^^ (BitVec.ofInt IntKind.u32.bits (IntKind.u32.wrap (IntKind.u32.wrap (x / 4294967296) * 7)))).toNat
  have h3 : bitsA .xor .u32 (IntKind.u32.wrap x) (IntKind.u32.wrap (IntKind.u32.wrap (x / 4294967296) * 7)) = (n : Int) := h2
  unfold mkX
  rw [h3]
  simp [h1]
/-- a limb, of a number -/
noncomputable def mkl (x : Int) : Nat := if x % 7 = 0 then (IntKind.i64.wrap (x.tdiv 7) % 3).toNat else if x % 5 = 0 then 4294967295 - (IntKind.i64.wrap (x.tdiv 5) % 3).toNat else mkX x
theorem mkl_lt (x : Int) : mkl x < 4294967296 := by
  have := (mkX_spec x).1
  unfold mkl
  split
  · omega
  · split <;> omega
noncomputable def mkG (f : Nat → Int) (n j : Nat) : Nat := if j < n then mkl (f j) else 0
theorem mkG_lt (f : Nat → Int) (n j : Nat) : mkG f n j < 4294967296 := by
  have := mkl_lt (f j)
  unfold mkG
  split <;> omega
noncomputable def mkF (k : Int) (f : Nat → Int) (n j : Nat) : Nat :=
  if k % 6 = 0 then (if j < 1 then mkG f n j else 0) else if k % 6 = 1 then 4294967295 - mkG f n j else if k % 6 = 2 then (if j < 4 then mkG f n j else 0) else mkG f n j
theorem mkF_lt (k : Int) (f : Nat → Int) (n j : Nat) : mkF k f n j < 4294967296 := by
  have := mkG_lt f n j
  unfold mkF
  repeat' split
  all_goals omega
noncomputable def mkN (k : Int) (f : Nat → Int) (n : Nat) : Nat := ofL (mkF k f n) 8
theorem mkN_lt (k : Int) (f : Nat → Int) (n : Nat) : mkN k f n < W := ofL_lt (mkF_lt k f n) 8
theorem mkN_num (k : Int) (f : Nat → Int) (n : Nat) : famL (lbF (mkF k f n)) 8 = numL (mkN k f n) := lbF_num (mkF_lt k f n)

/-- noughts from c on -/
noncomputable def cutL (g : Nat → Nat) (c i : Nat) : List AV := famL (lbF fun j => if c ≤ j ∧ j < c + i then 0 else g j) 8
@[simp] theorem cutL_length (g : Nat → Nat) (c i : Nat) : (cutL g c i).length = 8 := by simp [cutL]
theorem cutL_set (g : Nat → Nat) (c i : Nat) : (cutL g c i).set (c + i) (.int .u32 0) = cutL g c (i + 1) := by
  rw [cutL, famL_set]
  refine famL_congr fun j _ => ?_
  unfold upd
  by_cases h1 : j = c + i
  · subst h1; simp [lbF, show c + i < c + (i + 1) by omega]
  · simp only [h1, if_false, lbF]
    by_cases h2 : c ≤ j ∧ j < c + i
    · rw [if_pos h2, if_pos (by omega)]
    · rw [if_neg h2, if_neg (by omega)]
theorem refsLts_cutL (m : Nat) (g : Nat → Nat) (c i : Nat) : refsLts m (cutL g c i) = true := refsLts_famL fun _ _ => rfl
theorem refsLts_lbF (m : Nat) (g : Nat → Nat) (n : Nat) : refsLts m (famL (lbF g) n) = true := refsLts_famL fun _ _ => rfl
theorem cutL_zero (g : Nat → Nat) (c : Nat) : cutL g c 0 = famL (lbF g) 8 := famL_congr fun j _ => by simp only [lbF]; rw [if_neg (by omega)]


theorem cutL_end (g : Nat → Nat) (c i : Nat) (h : c + i = 8) : cutL g c i = famL (lbF fun j => if j < c then g j else 0) 8 := by
  refine famL_congr fun j hj => ?_
  simp only [lbF]
  by_cases h1 : j < c
  · rw [if_neg (by omega), if_pos h1]
  · rw [if_pos (by omega), if_neg h1]
/-- what stands when i limbs are made -/
noncomputable def mkL (f : Nat → Int) (i : Nat) : List AV := famL (lbF (mkG f i)) 8
@[simp] theorem mkL_length (f : Nat → Int) (i : Nat) : (mkL f i).length = 8 := by simp [mkL]
theorem mkL_set (f : Nat → Int) (i : Nat) {v : Int} (hv : v = (mkl (f i) : Nat)) : (mkL f i).set i (.int .u32 v) = mkL f (i + 1) := by
  subst hv
  rw [mkL, famL_set]
  refine famL_congr fun j _ => ?_
  unfold upd
  by_cases h1 : j = i
  · subst h1; simp [lbF, mkG]
  · simp only [h1, if_false, lbF, mkG]
    by_cases h2 : j < i
    · rw [if_pos h2, if_pos (by omega)]
    · rw [if_neg h2, if_neg (by omega)]
theorem refsLts_mkL (m : Nat) (f : Nat → Int) (i : Nat) : refsLts m (mkL f i) = true := refsLts_famL fun _ _ => rfl
theorem mkL_zero (f : Nat → Int) : mkL f 0 = numL 0 := by
  rw [numL]
  exact famL_congr fun j _ => by simp [lbF, mkG, limbA, limb_def]
theorem mkL_all (f : Nat → Int) (n i : Nat) (h : i = min 8 n) : mkL f i = famL (lbF (mkG f n)) 8 :=
  famL_congr fun j hj => by
    simp only [lbF, mkG]
    by_cases h2 : j < n
    · rw [if_pos h2, if_pos (by omega)]
    · rw [if_neg h2, if_neg (by omega)]
end Go.Proofs.Ytgefihgogfkjoaa

/-! The statements' own words: Make. -/
namespace Go.Proofs.Ytgefihgogfkjoaa
open Go.Am

theorem mod3 (x : Int) : IntKind.u32.wrap (x % 3) = ((x % 3).toNat : Nat) := by rw [in_u32 (by omega) (by omega)]; omega
theorem make (k : Int) (f : Nat → Int) (n : Nat) : ASpec Try.prog 27 [.int .i64 k, .ro n (famL (i64F f) n)] (num (mkN k f n)) := by
  refine ASpec.start 1000 Try.func27 (fn := Try.f27) rfl (by decide) mixed (by kernel_rfl) (by simp) ?_
  simp (disch := omega) [ini, upd_eq, tyNum]
  obtain ⟨M, hM⟩ : ∃ M, M = min 8 n := ⟨_, rfl⟩
  refine goT_count (fun i => [(0, .int .i64 k), (1, .ro n (famL (i64F f) n)), (4, .ptr 0 0), (5, .ptr 1 0), (6, .int .i64 (i : Nat))]) (fun i => [(0, ⟨numL 0, true⟩), (1, ⟨mkL f i, true⟩)]) 2 M ?_ ?_ ?_
  · intro i hi IH
    refine goT_round mixed 100 ?_
    have hg : (famL (i64F f) n)[i]? = some (.int .i64 (f i)) := famL_get _ _ _ (by omega)
    have hne : ¬ famL (i64F f) n = [] := fun h => by have := congrArg List.length h; simp at this; omega
    have h7 := within (f i) 7 (by decide) (by decide)
    have h5 := within (f i) 5 (by decide) (by decide)
    have h57 := within (IntKind.i64.wrap ((f i).tdiv 7)) 3 (by decide) (by decide)
    have h55 := within (IntKind.i64.wrap ((f i).tdiv 5)) 3 (by decide) (by decide)
    obtain ⟨hx1, hx2⟩ := mkX_spec (f i)
    have hs : ∀ v : Int, v = (mkl (f i) : Nat) → (mkL f i).set i (.int .u32 v) = mkL f (i + 1) := fun v hv => mkL_set f i hv
    have h8 : i < 8 := by omega
    have hI : (i : Int) < 8 := by omega
    have hN : (i : Int) < n := by omega
    have hni : i < n := by omega
    have e7 := mod3 (IntKind.i64.wrap ((f i).tdiv 7))
    have e5 := mod3 (IntKind.i64.wrap ((f i).tdiv 5))
    simp (disch := omega) [st_eq, upd_eq, tyNum, tyU32, tyInt, tyInts, lenA, hg, hne, binA_shr, store_int, hx2, h8, hni, hI, hN]
    refine callT_of h5 rfl rfl ?_
    by_cases c5 : f i % 5 = 0
    · simp (disch := omega) [upd_eq, tyNum, tyU32, tyInt, tyInts, c5, hg, hne, h8, hni, hI, hN, binA_quoZ]
      refine callT_of h55 rfl rfl ?_
      simp (disch := omega) [upd_eq, tyNum, tyU32, tyInt, tyInts, hg, hne, h8, hni, hI, hN, store_int, e5]
      refine callT_of h7 rfl rfl ?_
      by_cases c7 : f i % 7 = 0
      · simp (disch := omega) [upd_eq, tyNum, tyU32, tyInt, tyInts, c7, hg, hne, h8, hni, hI, hN, binA_quoZ]
        refine callT_of h57 rfl rfl ?_
        simp (disch := omega) [upd_eq, tyNum, tyU32, tyInt, tyInts, hg, hne, h8, hni, hI, hN, store_int, e7, in_i64]
        refine IH _ ⟨by simp [upd_eq, refsLt, refsLts_i64F], ?_⟩
        simp [upd_eq, refsLts_mkL]
        exact mkL_set f i (by unfold mkl; rw [if_pos c7]; omega)
      · simp (disch := omega) [upd_eq, beqF c7, in_i64]
        refine IH _ ⟨by simp [upd_eq, refsLt, refsLts_i64F], ?_⟩
        simp [upd_eq, refsLts_mkL]
        refine mkL_set f i ?_
        unfold mkl
        rw [if_neg c7, if_pos c5, in_u32 (by omega) (by omega)]
        omega
    · simp (disch := omega) [upd_eq, tyNum, tyU32, tyInt, tyInts, beqF c5, hg, hne, h8, hni, hI, hN]
      refine callT_of h7 rfl rfl ?_
      by_cases c7 : f i % 7 = 0
      · simp (disch := omega) [upd_eq, tyNum, tyU32, tyInt, tyInts, c7, hg, hne, h8, hni, hI, hN, binA_quoZ]
        refine callT_of h57 rfl rfl ?_
        simp (disch := omega) [upd_eq, tyNum, tyU32, tyInt, tyInts, hg, hne, h8, hni, hI, hN, store_int, e7, in_i64]
        refine IH _ ⟨by simp [upd_eq, refsLt, refsLts_i64F], ?_⟩
        simp [upd_eq, refsLts_mkL]
        exact mkL_set f i (by unfold mkl; rw [if_pos c7]; omega)
      · simp (disch := omega) [upd_eq, beqF c7, in_i64]
        refine IH _ ⟨by simp [upd_eq, refsLt, refsLts_i64F], ?_⟩
        simp [upd_eq, refsLts_mkL]
        exact mkL_set f i (by unfold mkl; rw [if_neg c7, if_neg c5])
  · refine goT_round mixed 100 ?_
    have hall := mkL_all f n M hM
    have h6 := within k 6 (by decide) (by decide)
    have hG := mkG_lt f n
    have hr : ∀ L : List AV, L = famL (lbF (mkF k f n)) 8 → segA L 0 8 = some (num (mkN k f n)) := fun L hL => by rw [hL, mkN_num]; exact segA_num
    have hp : ∀ L : List AV, L = famL (lbF (mkF k f n)) 8 → L = numL (mkN k f n) := fun L hL => by rw [hL, mkN_num]
    have hcond : ((M : Int) < 8 && decide ((M : Int) < n)) = false := by simp; omega
    have hend : ¬ ((M : Int) < 8) ∨ ¬ ((M : Int) < n) := by omega
    have hcl : ∃ b c : Bool, (decide ((M : Int) < 8)) = b ∧ (decide ((M : Int) < n)) = c ∧ (b && c) = false := ⟨_, _, rfl, rfl, by simp; omega⟩
    obtain ⟨b, c, hb, hc, hbc⟩ := hcl
    by_cases hc : (M : Int) < 8
    case' pos => have hc2 : ¬ ((M : Int) < n) := by omega
    case' pos => simp (disch := omega) [st_eq, upd_eq, tyNum, tyU32, tyInt, tyInts, lenA, hc, hc2]
    case' neg => simp (disch := omega) [st_eq, upd_eq, tyNum, tyU32, tyInt, tyInts, lenA, hc]
    all_goals
      refine callT_of h6 rfl rfl ?_
      rw [hall]
      by_cases c0 : k % 6 = 0
      · simp (disch := omega) [upd_eq, tyNum, beqT c0]
        refine goT_count (fun i => [(4, .ptr 0 0), (5, .ptr 1 0), (7, .int .i64 ((i + 1 : Nat) : Int))]) (fun i => [(0, ⟨numL 0, true⟩), (1, ⟨cutL (mkG f n) 1 i, true⟩)]) 2 7 ?_ ?_ ?_
        · intro i hi IH
          refine goT_round mixed 100 ?_
          have e1 : ((i : Int) + 1).toNat = 1 + i := by omega
          have hset := cutL_set (mkG f n) 1 i
          simp (disch := omega) [st_eq, upd_eq, tyNum, tyU32, show (i : Int) + 1 < 8 by omega, show 0 ≤ (i : Int) + 1 by omega, e1, show 1 + i < 8 by omega, store_int, hset, in_i64]
          exact IH _ ⟨by simp [upd_eq, refsLt], by simp [upd_eq, refsLts_cutL]⟩
        · refine goT_round mixed 100 ?_
          simp (disch := omega) [st_eq, upd_eq, tyNum]
          rw [cutL_end _ 1 7 rfl, hr (famL (lbF fun j => if j < 1 then mkG f n j else 0) 8) (famL_congr fun j hj => by simp only [lbF, mkF]; rw [if_pos c0])]
          simp (disch := omega) [upd_eq, tyNum, resA_L Try.results27]
        · exact ⟨by simp [upd_eq, refsLt], by simp [upd_eq, refsLts_lbF, cutL_zero]⟩
      · by_cases c1 : k % 6 = 1
        · simp (disch := omega) [upd_eq, tyNum, beqF c0, beqT c1]
          refine goT_count (fun i => [(4, .ptr 0 0), (5, .ptr 1 0), (8, .int .i64 (i : Nat))]) (fun i => [(0, ⟨numL 0, true⟩), (1, ⟨mixL (lbF fun j => 4294967295 - mkG f n j) (lbF (mkG f n)) 8 i, true⟩)]) 2 8 ?_ ?_ ?_
          · intro i hi IH
            refine goT_round mixed 100 ?_
            have hv := bnot32 (hG i)
            have hgt : (mixL (lbF fun j => 4294967295 - mkG f n j) (lbF (mkG f n)) 8 i)[i]? = some (.int .u32 (mkG f n i : Nat)) := mixL_get hi
            have hset : (mixL (lbF fun j => 4294967295 - mkG f n j) (lbF (mkG f n)) 8 i).set i (.int .u32 ((4294967295 - mkG f n i : Nat) : Int)) = _ := mixL_set rfl
            simp (disch := omega) [st_eq, upd_eq, tyNum, tyU32, show (i : Int) < 8 by omega, hi, hgt, IntKind.signed, IntKind.max, hv, store_int, hset, in_i64]
            exact IH _ ⟨by simp [upd_eq, refsLt], by simp [upd_eq]; exact refsLts_mixL (fun _ => rfl) (fun _ => rfl)⟩
          · refine goT_round mixed 100 ?_
            simp (disch := omega) [st_eq, upd_eq, tyNum]
            rw [mixL_all, hr (famL (lbF fun j => 4294967295 - mkG f n j) 8) (famL_congr fun j hj => by simp only [lbF, mkF]; rw [if_neg c0, if_pos c1])]
            simp (disch := omega) [upd_eq, tyNum, resA_L Try.results27]
          · exact ⟨by simp [upd_eq, refsLt], by simp [upd_eq, refsLts_lbF, mixL_zero]⟩
        · by_cases c2 : k % 6 = 2
          · simp (disch := omega) [upd_eq, tyNum, beqF c0, beqF c1, beqT c2]
            refine goT_count (fun i => [(4, .ptr 0 0), (5, .ptr 1 0), (9, .int .i64 ((i + 4 : Nat) : Int))]) (fun i => [(0, ⟨numL 0, true⟩), (1, ⟨cutL (mkG f n) 4 i, true⟩)]) 2 4 ?_ ?_ ?_
            · intro i hi IH
              refine goT_round mixed 100 ?_
              have e1 : ((i : Int) + 4).toNat = 4 + i := by omega
              have hset := cutL_set (mkG f n) 4 i
              simp (disch := omega) [st_eq, upd_eq, tyNum, tyU32, show (i : Int) + 4 < 8 by omega, show 0 ≤ (i : Int) + 4 by omega, e1, show 4 + i < 8 by omega, store_int, hset, in_i64]
              exact IH _ ⟨by simp [upd_eq, refsLt]; omega, by simp [upd_eq, refsLts_cutL]⟩
            · refine goT_round mixed 100 ?_
              simp (disch := omega) [st_eq, upd_eq, tyNum]
              rw [cutL_end _ 4 4 rfl, hr (famL (lbF fun j => if j < 4 then mkG f n j else 0) 8) (famL_congr fun j hj => by simp only [lbF, mkF]; rw [if_neg c0, if_neg c1, if_pos c2])]
              simp (disch := omega) [upd_eq, tyNum, resA_L Try.results27]
            · exact ⟨by simp [upd_eq, refsLt], by simp [upd_eq, refsLts_lbF, cutL_zero]⟩
          · simp (disch := omega) [upd_eq, tyNum, beqF c0, beqF c1, beqF c2]
            rw [hr (famL (lbF (mkG f n)) 8) (famL_congr fun j hj => by simp only [lbF, mkF]; rw [if_neg c0, if_neg c1, if_neg c2])]
            simp (disch := omega) [upd_eq, tyNum, resA_L Try.results27]
  · exact ⟨by simp [upd_eq, refsLt, refsLts_i64F], by simp [upd_eq, refsLts_mkL, mkL_zero]⟩
end Go.Proofs.Ytgefihgogfkjoaa

/-! The statements' own words: known. -/
namespace Go.Proofs.Ytgefihgogfkjoaa
open Go.Am

section
variable {P : Program} {bk : Nat → Option Blk} {nt s b : Nat} {a : Bool} {z : List AV}
theorem build2 {e eb : Nat} {ea : Bool} {ie : TyI} (hi : tyI P e = some ie) (hsz : ie.size = 1) (hz : ie.zero.length = 1) {x0 x1 : Int} :
    buildSliceA P ⟨s, b, a, z, .slice e 1 ea eb⟩ ⟨bk, nt⟩ 2 [(0, .int .u8 x0), (1, .int .u8 x1)] = some (.sl nt 0 1 2, ⟨upd bk nt (some ⟨[.int .u8 x0, .int .u8 x1], true⟩), nt + 1⟩) := by
  obtain ⟨c, hc⟩ : ∃ c, ie.zero = [c] := by
    match h : ie.zero, hz with
    | [c], _ => exact ⟨c, rfl⟩
  have hf : fillA (fun j => some (j * 1, 1)) (zerosA [c] 2) [(0, .int .u8 x0), (1, .int .u8 x1)] = some [.int .u8 x0, .int .u8 x1] := by rfl
  simp only [buildSliceA, hi, hsz, hc, hf, HP.add]
  rfl
theorem build1 {e eb : Nat} {ea : Bool} {ie : TyI} (hi : tyI P e = some ie) (hsz : ie.size = 1) (hz : ie.zero.length = 1) {x0 : Int} :
    buildSliceA P ⟨s, b, a, z, .slice e 1 ea eb⟩ ⟨bk, nt⟩ 1 [(0, .int .u8 x0)] = some (.sl nt 0 1 1, ⟨upd bk nt (some ⟨[.int .u8 x0], true⟩), nt + 1⟩) := by
  obtain ⟨c, hc⟩ : ∃ c, ie.zero = [c] := by
    match h : ie.zero, hz with
    | [c], _ => exact ⟨c, rfl⟩
  have hf : fillA (fun j => some (j * 1, 1)) (zerosA [c] 1) [(0, .int .u8 x0)] = some [.int .u8 x0] := by rfl
  simp only [buildSliceA, hi, hsz, hc, hf, HP.add]
  rfl
end
theorem build0 {P : Program} {h : HP} {e eb es : Nat} {ea : Bool} {s b : Nat} {a : Bool} {z : List AV} {ie : TyI} (hi : tyI P e = some ie) (hsz : ie.size = es) (hz : ie.zero.length = es) :
    buildSliceA P ⟨s, b, a, z, .slice e es ea eb⟩ h 0 [] = some (.sl h.nt 0 es 0, h.add ⟨[], true⟩) := by
  simp [buildSliceA, hi, fillA, zerosA, hsz, hz]
theorem view_u8 {bk : Nat → Option Blk} {nt id off n m : Nat} {f : Nat → Nat} {fx : Bool} (hb : bk id = some ⟨famL (u8F f) m, fx⟩) (h : off + n ≤ m) :
    view ⟨bk, nt⟩ (.sl id off 1 n) = .ro n (famL (u8F fun i => f (off + i)) n) := by
  rw [view_sl hb (by simpa using h) (noRefs_u8F _ _), Nat.mul_one, famL_drop, famL_take (by omega)]
  rfl

theorem W_big : 18446744073709551616 < W := by unfold W; decide
theorem add_small {a b : Nat} (h : a + b < 18446744073709551616) : ASpec Try.prog 46 [num a, num b] (.tup [num (a + b), .int .u32 0]) := by
  have hW := W_big
  have := add a b (by omega) (by omega)
  rwa [Nat.mod_eq_of_lt (by omega), Nat.div_eq_of_lt (by omega)] at this
theorem fromN (n : Nat) (h : n < 9223372036854775808) : ASpec Try.prog 49 [.int .i64 (n : Nat)] (num n) := by
  have := from_ (n : Int) (by omega) (by omega)
  rwa [Int.toNat_natCast] at this

end Go.Proofs.Ytgefihgogfkjoaa
