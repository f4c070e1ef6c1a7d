/-
  Statements of limb: what divides; what is left.
-/
import Derived.Test.YtfgojdnakidifaaLaw1
set_option linter.unusedSimpArgs false
set_option linter.unusedVariables false
namespace Go.Proofs.Ytfgojdnakidifaa
open Go.Am

theorem restR {lo hi m : Nat} (hl : lo < W) (hh : hi < W) (hm : m < W) (h0 : m ≠ 0) : ∃ R, R = (hi * W + lo) % m ∧ R < m ∧ ASpec Try.prog 30 [num lo, num hi, num m] (.tup [num R, .bool true]) := by
  refine ⟨_, rfl, Nat.mod_lt _ (by omega), ?_⟩
  have := rest lo hi m hl hh hm
  rwa [restN, if_neg h0, decide_eq_true h0] at this
theorem rrestR {lo hi m : Nat} (hl : lo < W) (hh : hi < W) (hm : m < W) (h0 : m ≠ 0) : ∃ R, R = (hi * W + lo) % m ∧ R < m ∧ ASpec Try.prog 31 [num lo, num hi, num m] (.tup [num R, .bool true]) := by
  refine ⟨_, rfl, Nat.mod_lt _ (by omega), ?_⟩
  have := rrest lo hi m hl hh hm
  rwa [restN, if_neg h0, decide_eq_true h0] at this
theorem uniq {A B A' B' : Nat} (h1 : A < W) (h2 : A' < W) (h3 : B * W + A = B' * W + A') : A = A' ∧ B = B' := by
  have e1 := congrArg (· % W) h3
  have e2 := congrArg (· / W) h3
  simp only [Nat.mul_add_mod_self_right, Nat.mod_eq_of_lt h1, Nat.mod_eq_of_lt h2] at e1
  rw [Nat.mul_comm B, Nat.mul_comm B'] at e2
  simp only [Nat.mul_add_div W_pos, Nat.div_eq_of_lt h1, Nat.div_eq_of_lt h2] at e2
  exact ⟨e1, by omega⟩
theorem build_num {e : TypeId} : buildA ⟨8, 32, true, numL 0, .array 8 e 1 false⟩ [] = some (num 0) := rfl

theorem law_LimbDivides (a : Int) (f : Nat → Int) (n : Nat) (b : Int) (g : Nat → Int) (m : Nat) (c : Int) (h : Nat → Int) (k : Nat) :
    ASpec Try.prog 12 [.int .i64 a, .ro n (famL (i64F f) n), .int .i64 b, .ro m (famL (i64F g) m), .int .i64 c, .ro k (famL (i64F h) k)] (.bool true) := by
  refine ASpec.start 1000 Try.func12 (fn := Try.f12) rfl (by decide) mixed (by kernel_rfl) (by simp) ?_
  have h0W := W_big
  simp (disch := omega) [ini, upd_eq, tyNum]
  refine callT_of known rfl rfl ?_
  simp (disch := omega) [upd_eq, tyNum]
  refine callT_of (make a f n) rfl rfl ?_
  simp (disch := omega) [upd_eq, tyNum]
  refine callT_of (make b g m) rfl rfl ?_
  simp (disch := omega) [upd_eq, tyNum]
  refine callT_of (make c h k) rfl rfl ?_
  have hM := mkN_lt a f n
  have hQ := mkN_lt b g m
  have hX := mkN_lt c h k
  generalize mkN a f n = M at *
  generalize mkN b g m = Q at *
  generalize mkN c h k = X at *
  by_cases hM0 : M = 0
  · subst hM0
    simp (disch := omega) [upd_eq, tyNum, build_num, eql_num, resA_L Try.results12]
  · simp (disch := omega) [upd_eq, tyNum, build_num, eql_num, hM0]
    obtain ⟨R, hR, hRM, s1⟩ := rrestR (lo := X) (hi := 0) hX (by omega) hM hM0
    refine callT_of s1 rfl rfl ?_
    simp (disch := omega) [upd_eq, tyNum]
    obtain ⟨L, H, hL, hH, hLH, s2⟩ := mulR hM hQ
    refine callT_of s2 rfl rfl ?_
    simp (disch := omega) [upd_eq, tyNum]
    obtain ⟨S, c1, hS, q1, s3⟩ := addR hL (show R < W by omega)
    refine callT_of s3 rfl rfl ?_
    simp (disch := omega) [upd_eq, tyNum, tyU32, tyInt, in_i64]
    refine callT_of (fromN c1 (by omega)) rfl rfl ?_
    simp (disch := omega) [upd_eq, tyNum]
    obtain ⟨T, c2, hT, q2, s4⟩ := addR hH (show c1 < W by omega)
    have hmq : M * Q + M ≤ W * W := by
      have := Nat.mul_le_mul (Nat.le_of_lt hM) (show Q + 1 ≤ W from hQ)
      rwa [Nat.mul_add, Nat.mul_one] at this
    have hbig : H * W + L + R < W * W := by omega
    have hHc : (H + c1) * W + S = M * Q + R := by
      rw [Nat.add_mul]
      rcases q1 with ⟨rfl, h1⟩ | ⟨rfl, h1⟩ <;> omega
    have hHW : H + c1 < W := by
      rcases Nat.lt_or_ge (H + c1) W with h | h
      · exact h
      · have := Nat.mul_le_mul_right W h; omega
    have hc2 : c2 = 0 := by omega
    have hT2 : T = H + c1 := by omega
    refine callT_of s4 rfl rfl ?_
    simp (disch := omega) [upd_eq, tyNum]
    obtain ⟨Z, hZ, hZM, s5⟩ := restR hS hT hM hM0
    refine callT_of s5 rfl rfl ?_
    have hZR : Z = R := by
      rw [hZ, hT2, hHc, Nat.mul_add_mod]
      exact Nat.mod_eq_of_lt hRM
    simp (disch := omega) [upd_eq, tyNum, eql_num, hc2, hZR, resA_L Try.results12]
end Go.Proofs.Ytfgojdnakidifaa
