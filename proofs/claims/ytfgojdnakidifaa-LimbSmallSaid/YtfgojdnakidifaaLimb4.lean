/-
  Contracts of the document's limb: how many bits, order, sums, differences, a number twice.
-/
import Derived.Test.YtfgojdnakidifaaLimb3
set_option linter.unusedSimpArgs false
set_option linter.unusedVariables false
namespace Go.Proofs.Ytfgojdnakidifaa
open Go.Am

theorem low_bit {A k : Nat} (h : A / 2 ^ (k + 1) = 0) (hb : bitN A k = 0) : A / 2 ^ k = 0 := by
  unfold bitN at hb
  rw [Nat.pow_succ, ← Nat.div_div_eq_div_mul] at h
  omega
theorem top_blen {A k : Nat} (h : A / 2 ^ (k + 1) = 0) (hb : bitN A k ≠ 0) : blen A = k + 1 := by
  unfold bitN at hb
  have h1 : A < 2 ^ (k + 1) := by
    rcases Nat.lt_or_ge A (2 ^ (k + 1)) with h2 | h2
    · exact h2
    · have := Nat.div_pos h2 (Nat.two_pow_pos _); omega
  have h2 : 2 ^ k ≤ A := by
    rcases Nat.lt_or_ge A (2 ^ k) with h3 | h3
    · rw [Nat.div_eq_of_lt h3] at hb; omega
    · exact h3
  exact blen_eq h2 h1
theorem bitN_le (A k : Nat) : bitN A k < 2 := Nat.mod_lt _ (by decide)
theorem rbits (A : Nat) (hA : A < W) : ASpec Try.prog 36 [num A] (.int .i64 (blen A : Nat)) := by
  refine ASpec.start 1000 Try.func36 (fn := Try.f36) rfl (by decide) mixed (by kernel_rfl) (by simp) ?_
  simp (disch := omega) [ini, upd_eq]
  refine goT_down (X := Nat) (fun i => i) (fun i => [(1, .ptr 0 0), (3, .int .i64 ((i : Int) - 1))]) (fun _ => [(0, ⟨numL A, true⟩)]) 1
    (fun i => i ≤ 256 ∧ A / 2 ^ i = 0) ?_ 256 ⟨Nat.le_refl _, W_top hA⟩ ⟨by simp [upd_eq, refsLt], by simp [upd_eq]⟩
  rintro i ⟨hi, hd⟩ IH
  refine goT_round mixed 100 ?_
  cases i with
  | zero =>
    have : A = 0 := by simpa using hd
    subst this
    simp [st_eq, upd_eq, blen_zero, resA_L Try.results36]
  | succ i =>
    have hi8 : i < 256 := by omega
    simp (disch := omega) [st_eq, upd_eq, tyNum]
    refine callT_of (rbit A i hi8) rfl rfl ?_
    by_cases h0 : bitN A i = 0
    · simp (disch := omega) [upd_eq, h0, in_i64]
      exact IH i _ ⟨by omega, low_bit hd h0⟩ (by omega) ⟨by simp [upd_eq, refsLt], by simp [upd_eq]⟩
    · have hb := top_blen hd h0
      simp (disch := omega) [upd_eq, show 0 < bitN A i by omega, in_i64, hb, resA_L Try.results36]

theorem rcmp (A B : Nat) (hA : A < W) (hB : B < W) : ASpec Try.prog 35 [num A, num B] (.int .i64 (cmpZ A B)) := by
  refine ASpec.start 1000 Try.func35 (fn := Try.f35) rfl (by decide) mixed (by kernel_rfl) (by simp) ?_
  simp (disch := omega) [ini, upd_eq]
  refine goT_down (X := Nat) (fun i => i) (fun i => [(2, .ptr 0 0), (3, .ptr 1 0), (5, .int .i64 ((i : Int) - 1))]) (fun _ => [(0, ⟨numL A, true⟩), (1, ⟨numL B, true⟩)]) 2
    (fun i => i ≤ 8 ∧ A / 2 ^ (32 * i) = B / 2 ^ (32 * i)) ?_ 8 ⟨Nat.le_refl _, by rw [W_top hA, W_top hB]⟩ ⟨by simp [upd_eq, refsLt], by simp [upd_eq]⟩
  rintro i ⟨hi, hd⟩ IH
  refine goT_round mixed 100 ?_
  cases i with
  | zero =>
    have : A = B := by simpa using hd
    subst this
    simp [st_eq, upd_eq, cmpZ, resA_L Try.results35]
  | succ i =>
    have hi8 : i < 8 := by omega
    by_cases hl : limb A i = limb B i
    · simp (disch := omega) [st_eq, upd_eq, tyU32, tyNum, show (i : Int) < 8 by omega, numL_get hi8, limbA_def, hl, in_i64]
      exact IH i _ ⟨by omega, cmp_down A B i hd hl⟩ (by omega) ⟨by simp [upd_eq, refsLt], by simp [upd_eq]⟩
    · have hc := cmp_here A B i hd hl
      by_cases h1 : limb A i < limb B i
      · have : cmpZ A B = -1 := by rw [hc]; simp [cmpZ, h1]
        simp (disch := omega) [st_eq, upd_eq, tyU32, tyNum, show (i : Int) < 8 by omega, numL_get hi8, limbA_def, h1, in_i64, this, resA_L Try.results35]
      · have : cmpZ A B = 1 := by rw [hc]; simp [cmpZ, h1, show limb B i < limb A i by omega]
        simp (disch := omega) [st_eq, upd_eq, tyU32, tyNum, show (i : Int) < 8 by omega, numL_get hi8, limbA_def, h1, show limb B i < limb A i by omega, in_i64, this, resA_L Try.results35]

theorem radd (A B : Nat) (hA : A < W) (hB : B < W) : ASpec Try.prog 32 [num A, num B] (.tup [num ((A + B) % W), .int .u32 ((A + B) / W : Nat)]) := by
  rw [num_mod, ← carry_W hA hB]
  refine ASpec.start 1000 Try.func32 (fn := Try.f32) rfl (by decide) mixed (by kernel_rfl) (by simp) ?_
  simp (disch := omega) [ini, upd_eq, tyNum]
  refine goT_count (fun i => [(2, .ptr 0 0), (3, .ptr 1 0), (4, .ptr 2 0), (6, .ptr 3 0), (7, .int .u64 (carry A B i : Nat)), (8, .int .i64 (i : Nat))]) (fun i => [(0, ⟨numL A, true⟩), (1, ⟨numL B, true⟩), (2, ⟨numL 0, true⟩), (3, ⟨mixN (A + B) 0 i, true⟩)]) 4 8 ?_ ?_ ?_
  · intro i hi IH
    refine goT_round mixed 100 ?_
    have ha := limb_lt A i
    have hb := limb_lt B i
    have hc := carry_le A B i
    have hc1 := carry_le A B (i + 1)
    have hs := carry_step A B i
    have hl := limb_lt (A + B) i
    have e1 : ((carry A B i : Int) + limb A i + limb B i) % 4294967296 = limb (A + B) i := by omega
    have e2 : ((carry A B i : Int) + limb A i + limb B i) / 4294967296 = carry A B (i + 1) := by omega
    simp (disch := omega) [st_eq, upd_eq, tyU32, tyU64, tyNum, show (i : Int) < 8 by omega, numL_get hi, limbA_def, hi, in_u64, in_i64, w_u32, binA_shr, store_int, e1, e2]
    refine IH _ ⟨?_, ?_⟩
    · simp [upd_eq, refsLt]
    · simp [upd_eq]
      exact mixN_set rfl
  · refine goT_round mixed 100 ?_
    have hc := carry_le A B 8
    simp (disch := omega) [st_eq, upd_eq, tyNum, tyU32, tyU64, in_u32, resA_L Try.results32]
  · constructor
    · simp [upd_eq, refsLt, carry_zero]
    · simp [upd_eq]

theorem rsub (A B : Nat) (hA : A < W) (hB : B < W) : ASpec Try.prog 33 [num A, num B] (.tup [num ((A + W - B) % W), .int .u32 (if A < B then 1 else 0 : Nat)]) := by
  rw [num_mod, ← sub_num hA hB]
  have hD : A + W - B + B = A + W := by omega
  generalize A + W - B = D at hD
  refine ASpec.start 1000 Try.func33 (fn := Try.f33) rfl (by decide) mixed (by kernel_rfl) (by simp) ?_
  simp (disch := omega) [ini, upd_eq, tyNum]
  refine goT_count (fun i => [(2, .ptr 0 0), (3, .ptr 1 0), (4, .ptr 2 0), (6, .ptr 3 0), (7, .int .u64 (carry D B i : Nat)), (8, .int .i64 (i : Nat))]) (fun i => [(0, ⟨numL A, true⟩), (1, ⟨numL B, true⟩), (2, ⟨numL 0, true⟩), (3, ⟨mixN D 0 i, true⟩)]) 4 8 ?_ ?_ ?_
  · intro i hi IH
    refine goT_round mixed 100 ?_
    have ha := limb_lt A i
    have hb := limb_lt B i
    have hc := carry_le D B i
    have hc1 := carry_le D B (i + 1)
    have hs := carry_step D B i
    rw [hD, limb_addW hi] at hs
    have hl := limb_lt D i
    by_cases hlt : limb A i < limb B i + carry D B i
    · have hk : carry D B (i + 1) = 1 := by omega
      simp (disch := omega) [st_eq, upd_eq, tyU32, tyU64, tyNum, show (i : Int) < 8 by omega, numL_get hi, limbA_def, hi, in_u64, in_i64, w_u32, store_int, show (limb A i : Int) < limb B i + carry D B i by omega,
        show ((limb A i : Int) + 4294967296 - (limb B i + carry D B i)) % 4294967296 = limb D i by omega]
      refine IH _ ⟨?_, ?_⟩
      · simp [upd_eq, refsLt, hk]
      · simp [upd_eq]
        exact mixN_set rfl
    · have hk : carry D B (i + 1) = 0 := by omega
      simp (disch := omega) [st_eq, upd_eq, tyU32, tyU64, tyNum, show (i : Int) < 8 by omega, numL_get hi, limbA_def, hi, in_u64, in_i64, w_u32, store_int, show ¬ (limb A i : Int) < limb B i + carry D B i by omega,
        show ((limb A i : Int) - (limb B i + carry D B i)) % 4294967296 = limb D i by omega]
      refine IH _ ⟨?_, ?_⟩
      · simp [upd_eq, refsLt, hk]
      · simp [upd_eq]
        exact mixN_set rfl
  · refine goT_round mixed 100 ?_
    have hc := carry_le D B 8
    simp (disch := omega) [st_eq, upd_eq, tyNum, tyU32, tyU64, in_u32, resA_L Try.results33]
  · constructor
    · simp [upd_eq, refsLt, carry_zero]
    · simp [upd_eq]
end Go.Proofs.Ytfgojdnakidifaa
