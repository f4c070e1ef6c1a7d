import Derived.Test.YtmhfidobnfbniaaGroup4
set_option linter.unusedSimpArgs false
set_option linter.unusedVariables false
/-! GroupPrimes. -/
namespace Go.Proofs.Ytmhfidobnfbniaa
open Go.Am

open Classical in
set_option maxHeartbeats 4000000 in
set_option maxRecDepth 16000 in
theorem law_GroupPrimes (n a b raw : Int) (hr : -9223372036854775808 ≤ raw ∧ raw < 9223372036854775808) : ASpec Try.prog 4 [.int .i64 n, .int .i64 a, .int .i64 b, .int .i64 raw] (.bool true) := by
  refine ASpec.start 1000 Try.func4 (fn := Try.f4) rfl (by decide) mixed (by kernel_rfl) (by simp) ?_
  have h0W := W_big
  simp (disch := omega) [ini, upd_eq]
  refine callT_of known4 rfl rfl ?_
  simp (disch := omega) [upd_eq]
  obtain ⟨k, hk, -, s1⟩ := within4N n 200000 (by decide) (by decide)
  refine callT_of s1 rfl rfl ?_
  simp (disch := omega) [upd_eq]
  obtain ⟨u, hu, -, s2⟩ := within4N a 1000 (by decide) (by decide)
  obtain ⟨v, hv, -, s3⟩ := within4N b 1000 (by decide) (by decide)
  refine callT_of s2 rfl rfl ?_
  simp (disch := omega) [upd_eq, in_i64]
  refine callT_of s3 rfl rfl ?_
  have hP : ¬ PrimeP ((2 + (u : Int)) * (2 + (v : Int))) := prime_mul (by omega) (by omega)
  have hb1 : (2 + (u : Int)) * (2 + (v : Int)) ≤ 1001 * 1001 := Int.mul_le_mul (by omega) (by omega) (by omega) (by omega)
  have hb2 : 0 ≤ (2 + (u : Int)) * (2 + (v : Int)) := Int.mul_nonneg (by omega) (by omega)
  have hw : IntKind.i64.wrap ((2 + (u : Int)) * (2 + (v : Int))) = (2 + (u : Int)) * (2 + (v : Int)) := in_i64 (by omega) (by omega)
  generalize hX : 2 + (u : Int) = X at *
  generalize hY : 2 + (v : Int) = Y at *
  generalize hZ : X * Y = Z at *
  have hb31 : ¬ PrimeP 2147483648 := fun h => by have := h.2.1; omega
  have main : ∀ p : Int, ¬ PrimeP p → True := fun _ _ => trivial
  by_cases hc1 : 2147483648 ≤ raw
  case' pos =>
    have hrp : ¬ PrimeP raw := fun h => by have := h.2.1; omega
    simp (disch := omega) [upd_eq, in_i64, hX, hY, hc1]
    refine callT_of (prime raw hr) rfl rfl ?_
    simp (disch := omega) [upd_eq, hrp]
  case' neg =>
    by_cases hc2 : raw < 0
    case' pos =>
      have hrp : ¬ PrimeP raw := fun h => by have := h.1; omega
      simp (disch := omega) [upd_eq, in_i64, hX, hY, hc1, hc2]
      refine callT_of (prime raw hr) rfl rfl ?_
      simp (disch := omega) [upd_eq, hrp]
    case' neg => simp (disch := omega) [upd_eq, in_i64, hX, hY, hc1, hc2]
  all_goals
    refine callT_of (prime k (by omega)) rfl rfl ?_
    simp (disch := omega) [upd_eq]
    refine callT_of (rprime k (by omega)) rfl rfl ?_
    simp (disch := omega) [upd_eq, isBool, hZ, hw]
    refine callT_of (prime Z (by omega)) rfl rfl ?_
    simp (disch := omega) [upd_eq, hP]
    refine callT_of (prime 2147483647 (by omega)) rfl rfl ?_
    simp (disch := omega) [upd_eq, prime_big]
    refine callT_of (prime 2147483648 (by omega)) rfl rfl ?_
    simp (disch := omega) [upd_eq, hb31, resA_L Try.results4]
end Go.Proofs.Ytmhfidobnfbniaa
