/-
  Contracts of limb: a number of an int, a bit, a pick, how many bits.
-/
import Derived.Test.YtfgojdnakidifaaLimb1
set_option linter.unusedSimpArgs false
set_option linter.unusedVariables false
namespace Go.Proofs.Ytfgojdnakidifaa
open Go.Am

theorem limb_big {N i : Nat} (h : N < 2 ^ 64) (hi : 2 ≤ i) : limb N i = 0 := by
  rw [limb_def]
  have h1 : 2 ^ 64 ≤ 2 ^ (32 * i) := Nat.pow_le_pow_right (by decide) (by omega)
  rw [Nat.div_eq_of_lt (by omega)]
theorem num_set2 {N : Nat} {a b : Int} (h : N < 2 ^ 64) (ha : a = (N : Int) % 4294967296) (hb : b = (N : Int) / 4294967296 % 4294967296) :
    ((numL 0).set 0 (.int .u32 a)).set 1 (.int .u32 b) = numL N := by
  subst ha hb
  unfold numL
  rw [famL_set, famL_set]
  refine famL_congr fun j _ => ?_
  unfold upd
  by_cases h1 : j = 1
  · subst h1
    simp [limbA, limb_def]
  · by_cases h2 : j = 0
    · subst h2; simp [limbA, limb_def]
    · simp [h1, h2, limbA, limb_big h (show 2 ≤ j by omega), show limb 0 j = 0 by simp [limb_def]]

theorem from_ (n : Int) (h0 : -9223372036854775808 ≤ n) (h1 : n < 9223372036854775808) : ASpec Try.prog 22 [.int .i64 n] (num n.toNat) := by
  refine ASpec.start 1000 Try.func22 (fn := Try.f22) rfl (by decide) mixed (by kernel_rfl) (by simp) ?_
  by_cases hn : n < 0
  · simp [ini, upd_eq, tyNum, hn, show n.toNat = 0 by omega, resA_L Try.results22]
  · obtain ⟨m, rfl⟩ : ∃ m : Nat, n = m := ⟨n.toNat, by omega⟩
    have e := num_set2 (N := m) (by omega) rfl rfl
    simp (disch := omega) [ini, upd_eq, tyNum, tyU32, tyInt, hn, w_u32, binA_shr, store_int, e, segA_all, resA_L Try.results22]

theorem rfrom (n : Int) (h0 : -9223372036854775808 ≤ n) (h1 : n < 9223372036854775808) : ASpec Try.prog 37 [.int .i64 n] (num n.toNat) := by
  refine ASpec.start 1000 Try.func37 (fn := Try.f37) rfl (by decide) mixed (by kernel_rfl) (by simp) ?_
  by_cases hn : 0 < n
  · obtain ⟨m, rfl⟩ : ∃ m : Nat, n = m := ⟨n.toNat, by omega⟩
    have e := num_set2 (N := m) (by omega) rfl rfl
    simp (disch := omega) [ini, upd_eq, tyNum, tyU32, tyInt, show 0 < m by omega, w_u32, binA_shr, store_int, e, resA_L Try.results37]
  · simp [ini, upd_eq, tyNum, hn, show n.toNat = 0 by omega, resA_L Try.results37]

/-- bit k -/
def bitN (A k : Nat) : Nat := A / 2 ^ k % 2
theorem bitN_limb (A k : Nat) : limb A (k / 32) / 2 ^ (k % 32) % 2 = bitN A k := by
  rw [limb_def]
  unfold bitN
  rw [← Nat.toNat_testBit, ← Nat.toNat_testBit, Nat.testBit_mod_two_pow, Nat.testBit_div_two_pow, show k % 32 + 32 * (k / 32) = k by omega]
  simp [show k % 32 < 32 by omega]
theorem bit_eq (A k : Nat) : bitsA .and .u32 ((limb A (k / 32) : Int) / 2 ^ (k % 32)) 1 = (bitN A k : Int) := by
  have h := limb_lt A (k / 32)
  have h2 : limb A (k / 32) / 2 ^ (k % 32) < 4294967296 := Nat.lt_of_le_of_lt (Nat.div_le_self _ _) h
  have := band32 h2 (show 1 < 4294967296 by decide)
  rw [Nat.and_one_is_mod, bitN_limb] at this
  rw [← this]
  congr 1
theorem bit (A k : Nat) (hk : k < 256) : ASpec Try.prog 42 [num A, .int .i64 (k : Nat)] (.int .u32 (bitN A k : Nat)) := by
  refine ASpec.start 1000 Try.func42 (fn := Try.f42) rfl (by decide) mixed (by kernel_rfl) (by simp) ?_
  have hi : k / 32 < 8 := by omega
  have e1 : ((k : Int) / 32).toNat = k / 32 := by omega
  have e2 : ((k : Int) % 32).toNat = k % 32 := by omega
  have e3 : min (k % 32) 32 = k % 32 := by omega
  simp (disch := omega) [ini, upd_eq, tyNum, tyU32, tyInt, in_i64, binA_quo, binA_rem, binA_shr, e1, e2, e3, numL_get hi, limbA_def, bit_eq, show (k : Int) / 32 < 8 by omega, show 0 ≤ (k : Int) / 32 by omega, resA_L Try.results42]
theorem rbit (A k : Nat) (hk : k < 256) : ASpec Try.prog 43 [num A, .int .i64 (k : Nat)] (.int .u32 (bitN A k : Nat)) := by
  refine ASpec.start 1000 Try.func43 (fn := Try.f43) rfl (by decide) mixed (by kernel_rfl) (by simp) ?_
  have hi : k / 32 < 8 := by omega
  have e1 : ((k : Int) / 32).toNat = k / 32 := by omega
  have e2 : ((k : Int) % 32).toNat = k % 32 := by omega
  have e3 : min (k % 32) 32 = k % 32 := by omega
  simp (disch := omega) [ini, upd_eq, tyNum, tyU32, tyInt, tyUint, in_i64, in_u64, binA_quo, binA_rem, binA_shr, e1, e2, e3, numL_get hi, limbA_def, bit_eq, show (k : Int) / 32 < 8 by omega, show 0 ≤ (k : Int) / 32 by omega, resA_L Try.results43]

theorem rpick (y : Nat) (A B : Nat) : ASpec Try.prog 28 [.int .u32 (y : Nat), num A, num B] (num (if y = 0 then B else A)) := by
  refine ASpec.start 1000 Try.func28 (fn := Try.f28) rfl (by decide) mixed (by kernel_rfl) (by simp) ?_
  by_cases h : y = 0
  · simp [ini, upd_eq, tyNum, h, resA_L Try.results28]
  · simp [ini, upd_eq, tyNum, h, show 0 < y by omega, resA_L Try.results28]

theorem mask_all {x : Nat} (h : x < 4294967296) : x &&& 4294967295 = x := by
  rw [show (4294967295 : Nat) = 2 ^ 32 - 1 from rfl, Nat.and_two_pow_sub_one_eq_mod]; omega
theorem xor_xor (a b : Nat) : b ^^^ (a ^^^ b) = a := by
  rw [Nat.xor_comm a b, ← Nat.xor_assoc, Nat.xor_self, Nat.zero_xor]
theorem pick (y : Nat) (A B : Nat) : ASpec Try.prog 27 [.int .u32 (y : Nat), num A, num B] (num (if y = 0 then B else A)) := by
  refine ASpec.start 1000 Try.func27 (fn := Try.f27) rfl (by decide) mixed (by kernel_rfl) (by simp) ?_
  simp (disch := omega) [ini, upd_eq, tyNum, tyU32]
  refine callT_of (order y 0) rfl rfl ?_
  have e : ∃ m : Nat, (m = if y = 0 then 0 else 4294967295) ∧ IntKind.u32.wrap (IntKind.i64.wrap (-cmpZ y 0)) = m := by
    unfold cmpZ
    by_cases h : y = 0
    · exact ⟨0, by simp [h], by subst h; decide⟩
    · exact ⟨4294967295, by simp [h], by rw [if_neg (by omega), if_pos (by omega)]; decide⟩
  obtain ⟨m, hm, e⟩ := e
  simp (disch := omega) [upd_eq]
  refine goT_count (fun i => [(4, .ptr 0 0), (5, .ptr 1 0), (6, .ptr 2 0), (7, .int .i64 (IntKind.i64.wrap (-cmpZ y 0))), (12, .int .i64 (i : Nat))]) (fun i => [(0, ⟨mixN (if y = 0 then B else A) A i, true⟩), (1, ⟨numL B, true⟩), (2, ⟨numL 0, true⟩)]) 3 8 ?_ ?_ ?_
  · intro i hi IH
    refine goT_round mixed 100 ?_
    have ha := limb_lt A i
    have hb := limb_lt B i
    have hx : limb A i ^^^ limb B i < 4294967296 := Nat.xor_lt_two_pow (n := 32) ha hb
    have hm' : m < 4294967296 := by rw [hm]; split <;> omega
    have hx' : (limb A i ^^^ limb B i) &&& m < 4294967296 := Nat.and_lt_two_pow (n := 32) _ hm'
    simp (disch := omega) [st_eq, upd_eq, tyU32, tyNum, tyInt, show (i : Int) < 8 by omega, mixN_get hi, numL_get hi, hi, limbA_def, e, bxor32 ha hb, band32 hx hm', bxor32 hb hx', store_int, in_i64]
    refine IH _ ⟨?_, ?_⟩
    · simp [upd_eq, refsLt]
    · simp [upd_eq]
      refine mixN_set ?_
      subst hm
      by_cases h : y = 0
      · simp [h, limbA]
      · simp [h, limbA, mask_all hx, xor_xor]
  · refine goT_round mixed 100 ?_
    simp (disch := omega) [st_eq, upd_eq, tyNum, resA_L Try.results27]
  · constructor
    · simp [upd_eq, refsLt]
    · simp [upd_eq]
end Go.Proofs.Ytfgojdnakidifaa
