import Derived.Test.YtgefihgogfkjoaaGroup4
set_option linter.unusedSimpArgs false
set_option linter.unusedVariables false
/-! GroupPowers, GroupOuts, GroupPowersOf. -/
namespace Go.Proofs.Ytgefihgogfkjoaa
open Go.Am

theorem no_minus {q z P : Nat} (hP : P = 2 * q + 1) (h2 : 1 < q) (ho : q % 2 = 1) (hz : z < P) : ¬ (HasP P q z ∧ HasP P q (P - z)) := by
  rintro ⟨⟨_, _, h1⟩, ⟨_, _, h3⟩⟩
  -- z^q + (P - z)^q is a multiple of P, q being odd
  have key : ∀ n, (z ^ (2 * n + 1) + (P - z) ^ (2 * n + 1)) % P = 0 := by
    intro n
    have hsq : (P - z) * (P - z) % P = z * z % P := by
      obtain ⟨d, hd⟩ : ∃ d, P = z + d := ⟨P - z, by omega⟩
      rw [hd, Nat.add_sub_cancel_left]
      have e : d * d + z * (z + d) = z * z + d * (z + d) := by
        rw [Nat.mul_add, Nat.mul_add, Nat.mul_comm d z]; omega
      have e1 : (d * d + z * (z + d)) % (z + d) = d * d % (z + d) := Nat.add_mul_mod_self_right _ _ _
      have e2 : (z * z + d * (z + d)) % (z + d) = z * z % (z + d) := Nat.add_mul_mod_self_right _ _ _
      rw [← e1, e, e2]
    have hp : (P - z) ^ (2 * n) % P = z ^ (2 * n) % P := by
      rw [Nat.pow_mul, Nat.pow_mul, Nat.pow_two, Nat.pow_two, Nat.pow_mod, hsq, ← Nat.pow_mod]
    rw [Nat.pow_succ, Nat.pow_succ, Nat.add_mod, Nat.mul_mod ((P - z) ^ (2 * n)), hp, ← Nat.mul_mod, ← Nat.add_mod, ← Nat.mul_add, show z + (P - z) = P by omega]
    exact Nat.mul_mod_left _ _
  have h := key (q / 2)
  rw [show 2 * (q / 2) + 1 = q by omega, Nat.add_mod, h1, h3, Nat.mod_eq_of_lt (by omega)] at h
  omega
theorem sq_small {q a : Nat} (hp : PrimeN (2 * q + 1)) : HasP (2 * q + 1) q (a * a % (2 * q + 1)) ∨ a * a % (2 * q + 1) < 2 := by
  by_cases h : 1 < a * a % (2 * q + 1)
  · exact .inl (hasP_sq hp h)
  · exact .inr (by omega)

end Go.Proofs.Ytgefihgogfkjoaa
