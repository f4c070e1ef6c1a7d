/-
  The statements of mont: any inverse; small numbers.
-/
import Derived.Test.YtlpeloenigdfdaaMont17
set_option linter.unusedSimpArgs false
set_option linter.unusedVariables false
namespace Go.Proofs.Ytlpeloenigdfdaa
open Go.Am

set_option maxHeartbeats 4000000 in
set_option maxRecDepth 16000 in
theorem law_MontInverse (a : Int) (f : Nat → Int) (n : Nat) (b : Int) (g : Nat → Int) (m : Nat) (small : Bool) :
    ASpec Try.prog 6 [.int .i64 a, .ro n (famL (i64F f) n), .int .i64 b, .ro m (famL (i64F g) m), .bool small] (.bool true) := by
  refine ASpec.startX [5] 1000 Try.func6 (fn := Try.f6) rfl (by decide) mixed (by kernel_rfl) (by simp) ?_
  have h0W := W_big
  have h0W1 : 0 < W := W_pos
  simp (disch := omega) [ini, upd_eq, tyNum]
  refine callT_of known2 rfl rfl ?_
  simp (disch := omega) [upd_eq, tyNum]
  refine callT_of (make a f n) rfl rfl ?_
  simp (disch := omega) [upd_eq, tyNum]
  refine callT_of (make b g m) rfl rfl ?_
  have hX := mkN_lt a f n
  have hY := mkN_lt b g m
  generalize mkN a f n = X at *
  generalize mkN b g m = Y at *
  cases small
  case' false => obtain ⟨x, hx⟩ : ∃ x, x = X := ⟨_, rfl⟩
  case' false => obtain ⟨y, hy⟩ : ∃ y, y = Y := ⟨_, rfl⟩
  case' false => rw [← hx, ← hy]
  case' false => have hxW : x < W := by omega
  case' false => have hyW : y < W := by omega
  case' false => simp (disch := omega) [upd_eq, tyNum]
  case' true => obtain ⟨x, hx⟩ : ∃ x, x = limb X 0 % 5000 := ⟨_, rfl⟩
  case' true => obtain ⟨y, hy⟩ : ∃ y, y = limb Y 0 % 5000 := ⟨_, rfl⟩
  case' true => have hlx := limb_lt X 0
  case' true => have hly := limb_lt Y 0
  case' true => have hxW : x < W := by omega
  case' true => have hyW : y < W := by omega
  case' true => have ex : (limb X 0 : Int) % 5000 = (x : Nat) := by omega
  case' true => have ey : (limb Y 0 : Int) % 5000 = (y : Nat) := by omega
  case' true => simp (disch := omega) [upd_eq, tyNum]
  case' true => refine goT_region2 mixed [(35, 11)] 900 (by kernel_rfl) ?_
  case' true => simp (disch := omega) [upd_eq, tyNum, tyU32, tyInt, numL_get, limbA_def, binA_rem, ex, ey, in_i64]
  case' true => refine callT_of (rfromN x (by omega)) rfl rfl ?_
  case' true => simp (disch := omega) [upd_eq, tyNum, tyU32, tyInt, numL_get, limbA_def, binA_rem, ex, ey, in_i64]
  case' true => refine callT_of (rfromN y (by omega)) rfl rfl ?_
  case' true => simp (disch := omega) [upd_eq, tyNum]
  case' true => refine ⟨by simp [dynOk, ptrNe, upd_eq], ?_⟩
  all_goals
    have s2 := inverse hxW hyW
    have s3 := rinverse hxW hyW
    have hzW : invN x y < W := by
      by_cases h : 2 ≤ y ∧ Nat.gcd x y = 1
      · have := (inv_spec h.1 h.2).1; omega
      · rw [inv_no h]; exact h0W1
    by_cases h : 2 ≤ y ∧ Nat.gcd x y = 1
    · obtain ⟨h2, h3⟩ := inv_spec h.1 h.2
      rw [decide_eq_true h] at s2 s3
      refine callT_of s2 rfl rfl ?_
      simp (disch := omega) [upd_eq, tyNum]
      refine callT_of s3 rfl rfl ?_
      simp (disch := omega) [upd_eq, tyNum, isBool, neq_num hzW hzW]
      obtain ⟨L, H, hL, hH, hLH, s4⟩ := rmulR hxW hzW
      refine callT_of s4 rfl rfl ?_
      simp (disch := omega) [upd_eq, tyNum]
      have s5 := rrestN hL hH hyW (show y ≠ 0 by omega)
      rw [hLH, show x * invN x y % y = 1 from (show x * invN x y % y = 1 % y from h3).trans (Nat.mod_eq_of_lt (by omega))] at s5
      refine callT_of s5 rfl rfl ?_
      simp (disch := omega) [upd_eq, tyNum]
      refine callT_of (rfromN 1 (by omega)) rfl rfl ?_
      simp (disch := omega) [upd_eq, tyNum, eql_num]
      refine callT_of (rcmp (invN x y) y hzW hyW) rfl rfl ?_
      have hc : cmpZ (invN x y) y = -1 := by unfold cmpZ; rw [if_pos h2]
      simp (disch := omega) [upd_eq, tyNum, hc, resA_L Try.results6]
    · rw [decide_eq_false h, inv_no h] at s2 s3
      refine callT_of s2 rfl rfl ?_
      simp (disch := omega) [upd_eq, tyNum]
      refine callT_of s3 rfl rfl ?_
      simp (disch := omega) [upd_eq, tyNum, isBool, neq_num h0W1 h0W1, eql_num h0W1 h0W1, resA_L Try.results6]

set_option maxHeartbeats 4000000 in
set_option maxRecDepth 16000 in
theorem law_MontSmall (a e m : Int) : ASpec Try.prog 7 [.int .i64 a, .int .i64 e, .int .i64 m] (.bool true) := by
  refine ASpec.start 1000 Try.func7 (fn := Try.f7) rfl (by decide) mixed (by kernel_rfl) (by simp) ?_
  have h0W := W_big
  have h0W1 : 0 < W := W_pos
  simp (disch := omega) [ini, upd_eq, tyNum]
  refine callT_of known2 rfl rfl ?_
  obtain ⟨q, hq, _, w1⟩ := within2N m 5000 (by decide) (by decide)
  obtain ⟨x, hx, _, w2⟩ := within2N a 100000 (by decide) (by decide)
  obtain ⟨k, hk, _, w3⟩ := within2N e 300 (by decide) (by decide)
  obtain ⟨N, hN⟩ : ∃ N, N = 3 + 2 * q := ⟨_, rfl⟩
  have eN : 3 + 2 * (q : Int) = (N : Nat) := by omega
  simp (disch := omega) [upd_eq, tyNum]
  refine callT_of w1 rfl rfl ?_
  simp (disch := omega) [upd_eq, tyNum, in_i64, eN]
  refine callT_of (rfromN N (by omega)) rfl rfl ?_
  simp (disch := omega) [upd_eq, tyNum]
  refine callT_of (make_mont (m := N) (by omega) (by omega) (by omega)) rfl (by simp [noRef, noRefs, mkM]) ?_
  simp (disch := omega) [upd_eq, tyNum, tyMont, mkM]
  refine callT_of w2 rfl rfl ?_
  simp (disch := omega) [upd_eq, tyNum]
  refine callT_of w3 rfl rfl ?_
  simp (disch := omega) [upd_eq, tyNum]
  have hpow := pow_ (T := W * W % N) (a := x) (e := k) (M := N) (by omega) (by omega) (by omega) (by omega)
  obtain ⟨P, hP⟩ : ∃ P : Nat → Nat, ∀ i, P i = x ^ i % N := ⟨_, fun _ => rfl⟩
  obtain ⟨r, hr⟩ : ∃ r, r = x % N := ⟨_, rfl⟩
  have er : (x : Int) % (N : Nat) = (r : Nat) := by rw [hr]; exact (Int.natCast_emod _ _).symm
  have hrN : r < N := by rw [hr]; exact Nat.mod_lt _ (by omega)
  have hPN : ∀ i, P i < N := fun i => by rw [hP]; exact Nat.mod_lt _ (by omega)
  have hP0 : P 0 = 1 := by rw [hP, Nat.pow_zero]; exact Nat.mod_eq_of_lt (by omega)
  have hPs : ∀ i, ((P i : Int) * r % (N : Nat)) = (P (i + 1) : Nat) := fun i => by
    rw [show (P i : Int) * r = ((P i * r : Nat) : Int) from rfl, ← Int.natCast_emod]
    congr 1
    rw [hP, hP, hr, Nat.pow_succ, ← Nat.mul_mod]
  rw [← hP k] at hpow
  refine goT_count (fun i => [(7, .int .i64 (N : Nat)), (8, .ptr 0 0), (9, .bool true), (10, .int .i64 (x : Nat)), (11, .int .i64 (k : Nat)), (12, .int .i64 (P i : Nat)), (13, .int .i64 (i : Nat))])
    (fun _ => [(0, ⟨montL N (W % N) (W * W % N) (negN N), true⟩)]) 1 k ?_ ?_ ?_
  · intro i hi IH
    refine goT_round mixed 100 ?_
    have hb : P i * r < 10003 * 10003 := Nat.mul_lt_mul_of_lt_of_le (by have := hPN i; omega) (by omega) (by decide)
    have hb2 : (0 : Int) ≤ (P i : Int) * r := by rw [show (P i : Int) * r = ((P i * r : Nat) : Int) from rfl]; omega
    have hb3 : (P i : Int) * r < 9223372036854775808 := by rw [show (P i : Int) * r = ((P i * r : Nat) : Int) from rfl]; omega
    simp (disch := omega) [st_eq, upd_eq, show (i : Int) < k by omega, binA_rem, er, in_i64, hPs]
    exact IH _ ⟨by simp [upd_eq, refsLt], by simp [upd_eq]⟩
  · refine goT_round mixed 200 ?_
    simp (disch := omega) [st_eq, upd_eq, tyNum]
    refine callT_of (rfromN x (by omega)) rfl rfl ?_
    simp (disch := omega) [upd_eq, tyNum]
    refine callT_of (rfromN N (by omega)) rfl rfl ?_
    simp (disch := omega) [upd_eq, tyNum]
    have s2 := inverse (a := x) (m := N) (by omega) (by omega)
    obtain ⟨ok, hok⟩ : ∃ ok, ok = decide (2 ≤ N ∧ Nat.gcd x N = 1) := ⟨_, rfl⟩
    rw [← hok] at s2
    refine callT_of s2 rfl rfl ?_
    simp (disch := omega) [upd_eq, tyNum]
    have hbase : ∀ j, j < 1 → r * j % N ≠ 1 := fun j hj => by rw [show j = 0 by omega]; simp
    refine goT_down (X := Nat × Nat) (fun y => if y.2 = 0 then N - y.1 + 1 else 0) (fun y => [(7, .int .i64 (N : Nat)), (8, .ptr 0 0), (9, .bool true), (10, .int .i64 (x : Nat)), (11, .int .i64 (k : Nat)), (12, .int .i64 (P k : Nat)), (14, .ptr 1 0), (15, .bool ok), (16, .int .i64 (y.2 : Nat)), (17, .int .i64 (y.1 : Nat))])
      (fun _ => [(0, ⟨montL N (W % N) (W * W % N) (negN N), true⟩), (1, ⟨numL (invN x N), true⟩)]) 2
      (fun y => y.1 ≤ N ∧ 1 ≤ y.1 ∧ ((y.2 = 0 ∧ ∀ j, j < y.1 → r * j % N ≠ 1) ∨ (0 < y.2 ∧ y.2 < N ∧ r * y.2 % N = 1))) ?_ (1, 0) ⟨by omega, by omega, by exact .inl ⟨rfl, hbase⟩⟩ ⟨by simp [upd_eq, refsLt], by simp [upd_eq]⟩
    rintro ⟨i, z⟩ ⟨h1, h2, h3⟩ IH
    simp only at h1 h2 h3 IH ⊢
    refine goT_round mixed 200 ?_
    by_cases hgo : i < N ∧ z = 0
    · obtain ⟨hi, rfl⟩ := hgo
      have hno := h3.resolve_right (by omega)
      have hb : r * i < 10003 * 10003 := Nat.mul_lt_mul_of_lt_of_le (by omega) (by omega) (by decide)
      have hb2 : (0 : Int) ≤ (r : Int) * i := by rw [show (r : Int) * i = ((r * i : Nat) : Int) from rfl]; omega
      have hb3 : (r : Int) * i < 9223372036854775808 := by rw [show (r : Int) * i = ((r * i : Nat) : Int) from rfl]; omega
      obtain ⟨c, hc⟩ : ∃ c, c = r * i % N := ⟨_, rfl⟩
      have ec : ((r : Int) * i) % (N : Nat) = (c : Nat) := by rw [hc, show (r : Int) * i = ((r * i : Nat) : Int) from rfl, ← Int.natCast_emod]
      by_cases hc1 : c = 1
      · simp (disch := omega) [st_eq, upd_eq, show (i : Int) < N by omega, binA_rem, er, in_i64, ec, hc1]
        exact IH (i + 1, i) _ ⟨by omega, by omega, .inr ⟨by omega, hi, by rw [← hc]; exact hc1⟩⟩ (by simp only [if_true]; rw [if_neg (by omega)]; omega) ⟨by simp [upd_eq, refsLt], by simp [upd_eq]⟩
      · simp (disch := omega) [st_eq, upd_eq, show (i : Int) < N by omega, binA_rem, er, in_i64, ec, beqF (show ¬ (c : Int) = 1 by omega)]
        exact IH (i + 1, 0) _ ⟨by omega, by omega, .inl ⟨rfl, fun j hj => by
          rcases Nat.lt_or_ge j i with h | h
          · exact hno.2 j h
          · obtain rfl : j = i := by omega
            rw [← hc]; exact hc1⟩⟩ (by simp only [if_true]; omega) ⟨by simp [upd_eq, refsLt], by simp [upd_eq]⟩
    · have hMq : ∀ j, Mq N (r * j) (x * j) := fun j => by rw [hr]; exact (Mq.mod x).mul (Mq.refl j)
      have h1N : 1 % N = 1 := Nat.mod_eq_of_lt (by omega)
      have hz : invN x N = z ∧ ok = decide (0 < z) := by
        rcases h3 with ⟨h4, h5⟩ | ⟨h4, h5, h6⟩
        · have hiN : i = N := by omega
          have hn : ¬ ∃ z, z < N ∧ Mq N (x * z) 1 := fun ⟨w, hw, hw2⟩ => h5 w (by omega) ((show r * w % N = 1 % N from (hMq w).trans hw2).trans h1N)
          refine ⟨by rw [h4]; exact invN_none hn, ?_⟩
          rw [hok, h4]
          exact decide_eq_false fun h => hn ⟨_, (inv_spec h.1 h.2).1, (inv_spec h.1 h.2).2⟩
        · have h7 : Mq N (x * z) 1 := (hMq z).symm.trans (h6.trans h1N.symm)
          refine ⟨invN_eq h5 h7, ?_⟩
          rw [hok, decide_eq_true (show 2 ≤ N ∧ Nat.gcd x N = 1 from ⟨by omega, cop_of_inv (by omega) h7⟩)]
          exact (decide_eq_true h4).symm
      have hzN : z < N := by rcases h3 with ⟨h4, _⟩ | ⟨_, h5, _⟩ <;> omega
      obtain ⟨hz1, hz2⟩ := hz
      rw [hz1]
      have hgt : decide ((z : Int) > 0) = ok := by rw [hz2, Bool.eq_iff_iff]; simp only [decide_eq_true_eq]; omega
      clear hok
      by_cases hi : i < N
      · have hz0 : ¬ z = 0 := fun h => hgo ⟨hi, h⟩
        have hok1 : ok = true := by rw [hz2]; exact decide_eq_true (by omega)
        subst hok1
        simp (disch := omega) [st_eq, upd_eq, show (i : Int) < N by omega, beqF (show ¬ (z : Int) = 0 by omega), tyNum, tyMont]
        refine callT_of (rfromN x (by omega)) rfl rfl ?_
        simp (disch := omega) [upd_eq, tyNum, tyMont]
        refine callT_of (rfromN k (by omega)) rfl rfl ?_
        simp (disch := omega) [upd_eq, tyNum, tyMont]
        refine callT_of hpow rfl rfl ?_
        have hPk := hPN k
        simp (disch := omega) [upd_eq, tyNum, tyMont]
        refine callT_of (rfromN (P k) (by omega)) rfl rfl ?_
        simp (disch := omega) [upd_eq, tyNum, eql_num, isBool, show 0 < z by omega]
        refine callT_of (rfromN z (by omega)) rfl rfl ?_
        simp (disch := omega) [upd_eq, tyNum, eql_num, resA_L Try.results7]
      · simp (disch := omega) [st_eq, upd_eq, show ¬ (i : Int) < N by omega, tyNum, tyMont]
        refine callT_of (rfromN x (by omega)) rfl rfl ?_
        simp (disch := omega) [upd_eq, tyNum, tyMont]
        refine callT_of (rfromN k (by omega)) rfl rfl ?_
        simp (disch := omega) [upd_eq, tyNum, tyMont]
        refine callT_of hpow rfl rfl ?_
        have hPk := hPN k
        simp (disch := omega) [upd_eq, tyNum, tyMont]
        refine callT_of (rfromN (P k) (by omega)) rfl rfl ?_
        rw [hz2]
        by_cases hz0 : 0 < z
        · simp (disch := omega) [upd_eq, tyNum, eql_num, isBool, hz0]
          refine callT_of (rfromN z (by omega)) rfl rfl ?_
          simp (disch := omega) [upd_eq, tyNum, eql_num, resA_L Try.results7]
        · simp (disch := omega) [upd_eq, tyNum, eql_num, isBool, hz0]
          refine callT_of (rfromN z (by omega)) rfl rfl ?_
          simp (disch := omega) [upd_eq, tyNum, eql_num, resA_L Try.results7]
  · exact ⟨by simp [upd_eq, refsLt, hP0], by simp [upd_eq]⟩
end Go.Proofs.Ytlpeloenigdfdaa
