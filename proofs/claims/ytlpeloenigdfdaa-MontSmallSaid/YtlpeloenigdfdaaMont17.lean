/-
  The statements of mont: inverses; small numbers.
-/
import Derived.Test.YtlpeloenigdfdaaMont16
set_option linter.unusedSimpArgs false
set_option linter.unusedVariables false
namespace Go.Proofs.Ytlpeloenigdfdaa
open Go.Am

theorem eu_inv {a m : Nat} : ∀ (n hi lo t s : Nat), lo = n → Eu a m hi lo t s → ∃ z, z < m ∧ Mq m (a * z) (Nat.gcd a m) := by
  intro n
  induction n using Nat.strongRecOn with
  | _ n ih =>
    intro hi lo t s hl h
    by_cases h0 : lo = 0
    · subst h0
      have hg := h.hg
      rw [Nat.gcd_zero_right] at hg
      exact ⟨t, h.ht, by rw [← hg]; exact h.hat⟩
    · exact ih (hi % lo) (by have := Nat.mod_lt hi (show 0 < lo by omega); omega) _ _ _ _ rfl (h.step h0)
theorem inv_spec {a m : Nat} (hm : 2 ≤ m) (hg : Nat.gcd a m = 1) : invN a m < m ∧ Mq m (a * invN a m) 1 := by
  obtain ⟨z, hz, h⟩ := eu_inv _ _ _ _ _ rfl (Eu.start (a := a) hm)
  rw [hg] at h
  rw [invN_eq hz h]
  exact ⟨hz, h⟩
theorem inv_no {a m : Nat} (h : ¬ (2 ≤ m ∧ Nat.gcd a m = 1)) : invN a m = 0 := by
  by_cases hm : 2 ≤ m
  · exact invN_gcd hm fun hg => h ⟨hm, hg⟩
  · rcases (by omega : m = 0 ∨ m = 1) with rfl | rfl
    · exact invN_none fun ⟨z, hz, _⟩ => by omega
    · exact invN_eq (z := 0) (by omega) (by unfold Mq; omega)

set_option maxHeartbeats 4000000 in
set_option maxRecDepth 16000 in
theorem law_MontTurned (a : Int) (f : Nat → Int) (n : Nat) (b : Int) (g : Nat → Int) (m : Nat) :
    ASpec Try.prog 11 [.int .i64 a, .ro n (famL (i64F f) n), .int .i64 b, .ro m (famL (i64F g) m)] (.bool true) := by
  refine ASpec.start 1000 Try.func11 (fn := Try.f11) rfl (by decide) mixed (by kernel_rfl) (by simp) ?_
  have h0W := W_big
  have h0W1 : 0 < W := W_pos
  simp (disch := omega) [ini, upd_eq, tyNum]
  refine callT_of known2 rfl rfl ?_
  simp (disch := omega) [upd_eq, tyNum]
  obtain ⟨M, hM, ho, h1, s1⟩ := odd_ b g m
  refine callT_of s1 rfl rfl ?_
  simp (disch := omega) [upd_eq, tyNum]
  refine callT_of (make a f n) rfl rfl ?_
  have hX := mkN_lt a f n
  generalize mkN a f n = X at *
  have hM0 : M ≠ 0 := by omega
  simp (disch := omega) [upd_eq, tyNum]
  refine callT_of (below hX hM hM0) rfl rfl ?_
  have hx := Nat.mod_lt X (show 0 < M by omega)
  generalize X % M = x at *
  simp (disch := omega) [upd_eq, tyNum]
  have hxW : x < W := by omega
  have s2 := inverse hxW hM
  have s3 := rinverse hxW hM
  have i1 := inverse (a := 1) (m := M) (by omega) hM
  rw [invN_eq (z := 1) (by omega) (Mq.of_eq (by omega)), decide_eq_true (show 2 ≤ M ∧ Nat.gcd 1 M = 1 from ⟨by omega, Nat.gcd_one_left M⟩)] at i1
  have hsq : Mq M ((M - 1) * (M - 1)) 1 := by
    obtain ⟨k, hk⟩ : ∃ k, M = k + 1 := ⟨M - 1, by omega⟩
    subst hk
    rw [Nat.add_sub_cancel]
    refine Mq.add_cancel (c := k + 1) ?_
    refine Mq.trans (Mq.of_eq (show k * k + (k + 1) = 1 + (k + 1) * k by rw [Nat.add_mul, Nat.one_mul]; omega)) ?_
    refine Mq.trans Mq.add_mul ?_
    rw [show 1 + (k + 1) = 1 + (k + 1) * 1 by omega]
    exact Mq.add_mul.symm
  have i2 := inverse (a := M - 1) (m := M) (by omega) hM
  rw [invN_eq (z := M - 1) (by omega) hsq, decide_eq_true (show 2 ≤ M ∧ Nat.gcd (M - 1) M = 1 from ⟨by omega, cop_of_inv (by omega) hsq⟩)] at i2
  have i3 := inverse (a := 0) (m := M) h0W1 hM
  rw [decide_eq_false (show ¬ (2 ≤ M ∧ Nat.gcd 0 M = 1) from fun h => by rw [Nat.gcd_zero_left] at h; omega), inv_no (fun h => by rw [Nat.gcd_zero_left] at h; omega)] at i3
  have i4 := inverse (a := 5) (m := 1) (by omega) (by omega)
  rw [decide_eq_false (show ¬ (2 ≤ 1 ∧ Nat.gcd 5 1 = 1) from fun h => by omega), inv_no (fun h => by omega)] at i4
  have hyW : invN x M < W := by
    by_cases h : 2 ≤ M ∧ Nat.gcd x M = 1
    · have := (inv_spec h.1 h.2).1; omega
    · rw [inv_no h]; exact h0W1
  have hwx : (2 ≤ M ∧ Nat.gcd x M = 1) → ASpec Try.prog 29 [num (invN x M), num M] (.tup [num x, .bool true]) := fun h => by
    obtain ⟨h2, h3⟩ := inv_spec h.1 h.2
    have h4 : Mq M (invN x M * x) 1 := by rw [Nat.mul_comm]; exact h3
    have := inverse (a := invN x M) (m := M) hyW hM
    rwa [invN_eq hx h4, decide_eq_true (show 2 ≤ M ∧ Nat.gcd (invN x M) M = 1 from ⟨h.1, cop_of_inv h.1 h4⟩)] at this
  refine callT_of s2 rfl rfl ?_
  obtain ⟨ok, hok⟩ : ∃ ok, ok = decide (2 ≤ M ∧ Nat.gcd x M = 1) := ⟨_, rfl⟩
  rw [← hok] at s3 ⊢
  simp (disch := omega) [upd_eq, tyNum]
  refine callT_of (rfromN 1 (by omega)) rfl rfl ?_
  simp (disch := omega) [upd_eq, tyNum]
  refine callT_of i1 rfl rfl ?_
  simp (disch := omega) [upd_eq, tyNum]
  refine callT_of (rfromN 1 (by omega)) rfl rfl ?_
  simp (disch := omega) [upd_eq, tyNum]
  have s4 := rsub M 1 hM (by omega)
  rw [if_neg (by omega), show M + W - 1 = M - 1 + W by omega, Nat.add_mod_right, Nat.mod_eq_of_lt (by omega)] at s4
  refine callT_of s4 rfl rfl ?_
  simp (disch := omega) [upd_eq, tyNum]
  refine callT_of i2 rfl rfl ?_
  simp (disch := omega) [upd_eq, tyNum]
  refine callT_of i3 rfl rfl ?_
  simp (disch := omega) [upd_eq, tyNum]
  refine callT_of (rfromN 5 (by omega)) rfl rfl ?_
  simp (disch := omega) [upd_eq, tyNum]
  refine callT_of (rfromN 1 (by omega)) rfl rfl ?_
  simp (disch := omega) [upd_eq, tyNum]
  refine callT_of i4 rfl rfl ?_
  simp (disch := omega) [upd_eq, tyNum]
  refine callT_of s3 rfl rfl ?_
  simp (disch := omega) [upd_eq, tyNum]
  refine callT_of (rfromN 1 (by omega)) rfl rfl ?_
  have hneq : binA Try.prog .neq 4 (.bool ok) (.bool ok) = some (.bool false) := by simp [isBool]
  simp (disch := omega) [upd_eq, tyNum, neq_num, hneq]
  cases hk : ok
  · simp (disch := omega) [upd_eq, tyNum, resA_L Try.results11]
  · simp (disch := omega) [upd_eq, tyNum]
    rw [hk] at hok
    refine callT_of (hwx (of_decide_eq_true hok.symm)) rfl rfl ?_
    simp (disch := omega) [upd_eq, tyNum, eql_num, resA_L Try.results11]
end Go.Proofs.Ytlpeloenigdfdaa
