import Derived.Test.YtgefihgogfkjoaaGroup2
set_option linter.unusedSimpArgs false
set_option linter.unusedVariables false
/-! Contracts: groups of so many bits. -/
namespace Go.Proofs.Ytgefihgogfkjoaa
open Go.Am

theorem W_31 {n : Nat} (h : n < 2147483648) : n < W := by have := W_big; omega
open Classical in
theorem rgmake_no (n : Int) (h : n < 12 ∨ 31 < n) : ASpec Try.prog 39 [.int .i64 n] (.tup [group 0 0 0 0, .bool false]) := by
  refine ASpec.start 1000 Try.func39 (fn := Try.f39) rfl (by decide) mixed (by kernel_rfl) (by simp) ?_
  by_cases h2 : n < 12
  · simp (disch := omega) [ini, upd_eq, tyGroup, h2, resA_L Try.results39]
  · simp (disch := omega) [ini, upd_eq, tyGroup, h2, show 31 < n by omega, resA_L Try.results39]
/-- the numbers that are looked at, as plain ones -/
theorem Safe.at {k q N K : Nat} (hs : Safe k q N) (hK : 2 ^ k = K) {i : Nat} (hi : i ≤ N) : 2 * q + 1 + 2 * N + 1 = K ∧ (((K : Int) - 1 - 2 * i) / 2 = (K : Int) / 2 - 1 - i) ∧ (i < N → ¬ (PrimeP ((K : Int) - 1 - 2 * i) ∧ PrimeP ((K : Int) / 2 - 1 - i))) ∧ (i = N → PrimeP ((K : Int) - 1 - 2 * i) ∧ PrimeP ((K : Int) / 2 - 1 - i)) := by
  have h1 := hs.sum
  rw [hK] at h1
  refine ⟨h1, by omega, fun hlt => ?_, fun he => ?_⟩
  · have := hs.bad i hlt
    rw [hK] at this
    rwa [show ((K - 1 - 2 * i : Nat) : Int) = (K : Int) - 1 - 2 * i by omega, show (((K - 1 - 2 * i) / 2 : Nat) : Int) = (K : Int) / 2 - 1 - i by omega] at this
  · have h2 := hs.hp
    have h3 := hs.hq
    rw [show ((2 * q + 1 : Nat) : Int) = (K : Int) - 1 - 2 * i by omega] at h2
    rw [show (q : Int) = (K : Int) / 2 - 1 - i by omega] at h3
    exact ⟨h2, h3⟩
theorem two_pow_31 {k : Nat} (h2 : k ≤ 31) : 2 ^ k ≤ 2147483648 := Nat.pow_le_pow_right (n := 2) (by decide) h2
open Classical in
set_option maxRecDepth 16000 in
theorem rgmake {k q N : Nat} (hs : Safe k q N) (h1 : 12 ≤ k) (h2 : k ≤ 31) : ASpec Try.prog 39 [.int .i64 k] (.tup [group k (2 * q + 1) q 4, .bool true]) := by
  refine ASpec.start 1000 Try.func39 (fn := Try.f39) rfl (by decide) mixed (by kernel_rfl) (by simp) ?_
  have hp := two_pow_31 h2
  obtain ⟨K, hK⟩ : ∃ K : Nat, 2 ^ k = K := ⟨_, rfl⟩
  have hKi : (2 : Int) ^ k = (K : Int) := by rw [← hK]; simp
  rw [hK] at hp
  have h64 : min k 64 = k := by omega
  have hw : IntKind.i64.wrap (K : Int) = K := in_i64 (by omega) (by omega)
  simp (disch := omega) [ini, upd_eq, tyGroup, tyInt, tyUint, in_u64, show ¬ (k : Int) < 12 by omega, show ¬ 31 < (k : Int) by omega, show ¬ k < 12 by omega, show ¬ 31 < k by omega, binA_shl, h64, hKi, hw, in_i64]
  refine goT_count (fun i => [(0, .int .i64 k), (2, .ptr 0 0), (4, .int .i64 ((K : Int) - 1 - 2 * (i : Int)))]) (fun _ => [(0, ⟨groupL 0 0 0 0, true⟩)]) 1 N ?_ ?_ ?_
  · intro i hi IH
    refine goT_round mixed 100 ?_
    obtain ⟨hsum, hdiv, hbad, -⟩ := hs.at hK (i := i) (by omega)
    have hb := hbad hi
    have hdiv2 : ((K : Int) - 1 - 2 * i - 1) / 2 = (K : Int) / 2 - 1 - i := by omega
    simp (disch := omega) [st_eq, upd_eq, tyGroup]
    refine callT_of (rprime _ (by omega)) rfl rfl ?_
    by_cases hB : PrimeP ((K : Int) - 1 - 2 * i)
    case pos =>
      have hA : ¬ PrimeP ((K : Int) / 2 - 1 - i) := fun h => hb ⟨hB, h⟩
      simp (disch := omega) [upd_eq, tyGroup, hB, binA_quo, in_i64, hdiv2]
      refine callT_of (rprime _ (by omega)) rfl rfl ?_
      simp (disch := omega) [upd_eq, tyGroup, hA, in_i64]
      exact IH _ ⟨by simp [upd_eq, refsLt]; omega, by simp [upd_eq]⟩
    case neg =>
      simp (disch := omega) [upd_eq, tyGroup, hB, in_i64]
      exact IH _ ⟨by simp [upd_eq, refsLt]; omega, by simp [upd_eq]⟩
  · refine goT_round mixed 100 ?_
    obtain ⟨hsum, hdiv, -, hgood⟩ := hs.at hK (i := N) (by omega)
    obtain ⟨hB, hA⟩ := hgood rfl
    have e1 : (K : Int) - 1 - 2 * N = (2 * q + 1 : Nat) := by omega
    have e2 : (K : Int) / 2 - 1 - N = (q : Nat) := by omega
    have hdiv2 : (((2 * q + 1 : Nat) : Int) - 1) / 2 = (q : Nat) := by omega
    rw [e1] at hB
    rw [e2] at hA
    rw [e1]
    generalize hP : 2 * q + 1 = P at *
    simp (disch := omega) [st_eq, upd_eq, tyGroup]
    refine callT_of (rprime _ (by omega)) rfl rfl ?_
    simp (disch := omega) [upd_eq, tyGroup, hB, binA_quo, in_i64, hdiv2]
    refine callT_of (rprime _ (by omega)) rfl rfl ?_
    simp (disch := omega) [upd_eq, tyGroup, hA]
    refine callT_of (rfromN P (by omega)) rfl rfl ?_
    simp (disch := omega) [upd_eq, tyGroup, tyNum, binA_quo, in_i64, hdiv2]
    refine callT_of (rfromN q (by omega)) rfl rfl ?_
    simp (disch := omega) [upd_eq, tyGroup, tyNum]
    refine callT_of (rfromN 4 (by omega)) rfl rfl ?_
    simp (disch := omega) [upd_eq, tyGroup, tyNum, resA_L Try.results39]
  · exact ⟨by simp [upd_eq, refsLt], by simp [upd_eq]⟩
end Go.Proofs.Ytgefihgogfkjoaa
