/-
  Statements of limb: order.
-/
import Derived.Test.YtfgojdnakidifaaLaw6
set_option linter.unusedSimpArgs false
set_option linter.unusedVariables false
namespace Go.Proofs.Ytfgojdnakidifaa
open Go.Am

theorem top_limb {X t : Nat} (h1 : 2 ^ t ≤ X) (h2 : X < 2 ^ (t + 1)) : limb X (t / 32) / 2 ^ (t % 32) = 1 := by
  have h3 : X / 2 ^ (32 * (t / 32)) < 2 ^ 32 := by
    apply Nat.div_lt_of_lt_mul
    rw [← Nat.pow_add]
    exact Nat.lt_of_lt_of_le h2 (Nat.pow_le_pow_right (show 0 < 2 by decide) (by omega))
  rw [limb_def, Nat.mod_eq_of_lt h3, Nat.div_div_eq_div_mul, ← Nat.pow_add, show 32 * (t / 32) + t % 32 = t by omega]
  have hp := Nat.two_pow_pos t
  have h4 : X / 2 ^ t < 2 := Nat.div_lt_of_lt_mul (by rw [← Nat.pow_succ]; exact h2)
  have h5 := Nat.div_pos h1 hp
  omega

set_option maxHeartbeats 2000000 in
set_option maxRecDepth 16000 in
theorem law_LimbOrder (a : Int) (f : Nat → Int) (n : Nat) (b : Int) (g : Nat → Int) (m : Nat) :
    ASpec Try.prog 8 [.int .i64 a, .ro n (famL (i64F f) n), .int .i64 b, .ro m (famL (i64F g) m)] (.bool true) := by
  refine ASpec.start 1000 Try.func8 (fn := Try.f8) rfl (by decide) mixed (by kernel_rfl) (by simp) ?_
  have h0W := W_big
  simp (disch := omega) [ini, upd_eq, tyNum]
  refine callT_of known rfl rfl ?_
  simp (disch := omega) [upd_eq, tyNum]
  refine callT_of (make a f n) rfl rfl ?_
  simp (disch := omega) [upd_eq, tyNum]
  refine callT_of (make b g m) rfl rfl ?_
  have hX := mkN_lt a f n
  have hY := mkN_lt b g m
  generalize mkN a f n = X at *
  generalize mkN b g m = Y at *
  simp (disch := omega) [upd_eq, tyNum]
  refine callT_of (bytes X) rfl rfl ?_
  simp (disch := omega) [upd_eq, tyNum, tyBytes, tyStr, conv_bytes]
  refine callT_of (bytes Y) rfl rfl ?_
  simp (disch := omega) [upd_eq, tyNum, tyBytes, tyStr, conv_bytes]
  refine callT_of (cmp X Y hX hY) rfl rfl ?_
  simp (disch := omega) [upd_eq, tyNum]
  refine callT_of (bits X hX) rfl rfl ?_
  have hb1 := blen_le (n := X) (k := 256) hX
  have hc := cmp Y X hY hX
  have c0 : decide (cmpZ X Y < 0) = decide (X < Y) := by unfold cmpZ; by_cases h : X < Y <;> simp [h]; split <;> decide
  have c1 : (cmpZ X Y == 0) = decide (X = Y) := by
    unfold cmpZ
    rcases Nat.lt_trichotomy X Y with h | h | h
    · simp [h, show X ≠ Y by omega]
    · simp [h]
    · simp [h, show ¬ X < Y by omega, show X ≠ Y by omega]
  have c2 : IntKind.i64.wrap (-cmpZ X Y) = cmpZ Y X := by
    unfold cmpZ
    rcases Nat.lt_trichotomy X Y with h | h | h
    · simp [h, show ¬ Y < X by omega]; decide
    · simp [h]; decide
    · simp [h, show ¬ X < Y by omega]; decide
  by_cases hX0 : X = 0
  case' pos =>
    have hb0 : blen X = 0 := by rw [hX0]; rfl
    simp (disch := omega) [upd_eq, tyNum, eql_num, build_num, isBool, hb0, show decide (X = 0) = true by simpa using hX0, str_lss hX hY, str_eql hX hY]
  case' neg =>
    obtain ⟨b1, b2, b3⟩ := blen_bounds hX0
    obtain ⟨t, ht⟩ : ∃ t, blen X = t + 1 := ⟨blen X - 1, by omega⟩
    rw [ht] at b1 b2
    simp only [Nat.add_sub_cancel] at b1
    have htop := top_limb b1 b2
    have e1 : ((t : Int) / 32).toNat = t / 32 := by omega
    have e2 : ((t : Int) % 32).toNat = t % 32 := by omega
    have e3 : min (t % 32) 32 = t % 32 := by omega
    have e4 : ((limb X (t / 32) : Int) / 2 ^ (t % 32)) = 1 := by
      have : ((limb X (t / 32) / 2 ^ (t % 32) : Nat) : Int) = 1 := by rw [htop]; rfl
      simpa using this
    have hq : t / 32 < 8 := by omega
    simp (disch := omega) [upd_eq, tyNum, tyU32, tyInt, tyUint, eql_num, build_num, isBool, ht, show decide (X = 0) = false by simpa using hX0, str_lss hX hY, str_eql hX hY, show ¬ (256 : Int) < (t : Int) + 1 by omega, show ¬ (t : Int) + 1 < 0 by omega, beqF (show ¬ (t : Int) + 1 = 0 by omega),
      show (0 : Int) < (t : Int) + 1 by omega, in_i64, binA_quo, binA_rem, binA_shr, in_u64, e1, e2, e3, show (t : Int) / 32 < 8 by omega, show 0 ≤ (t : Int) / 32 by omega, numL_get hq, limbA_def, e4]
  all_goals
    simp (disch := omega) [upd_eq, tyNum, isBool, c0, c1, c2, str_lss hX hY, str_eql hX hY]
    refine callT_of hc rfl rfl ?_
    simp (disch := omega) [upd_eq, tyNum, isBool, c0, c1, c2, resA_L Try.results8]
end Go.Proofs.Ytfgojdnakidifaa
