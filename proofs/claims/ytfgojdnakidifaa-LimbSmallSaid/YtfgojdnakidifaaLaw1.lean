/-
  Statements of limb: picks, sums of three, what divides.
-/
import Derived.Test.YtfgojdnakidifaaLimb13
set_option linter.unusedSimpArgs false
set_option linter.unusedVariables false
namespace Go.Proofs.Ytfgojdnakidifaa
open Go.Am

/-- the contracts, by what they say of the numbers -/
theorem addR {X Y : Nat} (hX : X < W) (hY : Y < W) : ∃ S c, S < W ∧ ((c = 0 ∧ S = X + Y) ∨ (c = 1 ∧ S + W = X + Y)) ∧ ASpec Try.prog 24 [num X, num Y] (.tup [num S, .int .u32 (c : Nat)]) := by
  refine ⟨_, _, Nat.mod_lt _ W_pos, ?_, add X Y hX hY⟩
  have h := Nat.div_add_mod (X + Y) W
  have h1 := Nat.mod_lt (X + Y) W_pos
  have h2 : (X + Y) / W < 2 := Nat.div_lt_of_lt_mul (by omega)
  generalize (X + Y) / W = q at *
  rcases (by omega : q = 0 ∨ q = 1) with rfl | rfl
  · exact .inl ⟨rfl, by omega⟩
  · exact .inr ⟨rfl, by omega⟩
theorem subR {X Y : Nat} (hX : X < W) (hY : Y < W) : ∃ D e, D < W ∧ ((e = 0 ∧ D + Y = X) ∨ (e = 1 ∧ D + Y = X + W)) ∧ ASpec Try.prog 26 [num X, num Y] (.tup [num D, .int .u32 (e : Nat)]) := by
  refine ⟨_, _, Nat.mod_lt _ W_pos, ?_, sub X Y hX hY⟩
  by_cases h : X < Y
  · rw [if_pos h, Nat.mod_eq_of_lt (by omega)]; exact .inr ⟨rfl, by omega⟩
  · rw [if_neg h, show X + W - Y = X - Y + W by omega, Nat.add_mod_right, Nat.mod_eq_of_lt (by omega)]; exact .inl ⟨rfl, by omega⟩
theorem mulR {X Y : Nat} (hX : X < W) (hY : Y < W) : ∃ L H, L < W ∧ H < W ∧ H * W + L = X * Y ∧ ASpec Try.prog 23 [num X, num Y] (.tup [num L, num H]) := by
  refine ⟨_, _, Nat.mod_lt _ W_pos, ?_, ?_, mul X Y hX hY⟩
  · exact Nat.div_lt_of_lt_mul (Nat.mul_lt_mul_of_lt_of_le hX (Nat.le_of_lt hY) W_pos)
  · rw [Nat.mul_comm]; exact Nat.div_add_mod _ _

theorem law_LimbPicks (yes a : Int) (f : Nat → Int) (n : Nat) (b : Int) (g : Nat → Int) (m : Nat) :
    ASpec Try.prog 7 [.int .i64 yes, .int .i64 a, .ro n (famL (i64F f) n), .int .i64 b, .ro m (famL (i64F g) m)] (.bool true) := by
  refine ASpec.start 1000 Try.func7 (fn := Try.f7) rfl (by decide) mixed (by kernel_rfl) (by simp) ?_
  simp (disch := omega) [ini, upd_eq, tyNum]
  refine callT_of known rfl rfl ?_
  simp (disch := omega) [upd_eq, tyNum]
  refine callT_of (make a f n) rfl rfl ?_
  simp (disch := omega) [upd_eq, tyNum]
  refine callT_of (make b g m) rfl rfl ?_
  have hX := mkN_lt a f n
  have hY := mkN_lt b g m
  generalize mkN a f n = X at *
  generalize mkN b g m = Y at *
  obtain ⟨y, hy, ey⟩ := wrap32_nat yes
  simp (disch := omega) [upd_eq, tyNum]
  refine callT_of (pick 0 X Y) rfl rfl ?_
  simp (disch := omega) [upd_eq, tyNum, tyU32, eql_num]
  refine callT_of (pick 1 X Y) rfl rfl ?_
  simp (disch := omega) [upd_eq, tyNum, tyU32, eql_num]
  refine callT_of (pick 4294967295 X Y) rfl rfl ?_
  simp (disch := omega) [upd_eq, tyNum, tyU32, tyInt, eql_num, ey]
  refine callT_of (pick y X Y) rfl rfl ?_
  simp (disch := omega) [upd_eq, tyNum, tyU32, tyInt, eql_num, ey]
  refine callT_of (rpick y X Y) rfl rfl ?_
  have hZ : (if y = 0 then Y else X) < W := by split <;> assumption
  simp (disch := omega) [upd_eq, tyNum, tyU32, eql_num, hZ, resA_L Try.results7]

theorem law_LimbCarry (a : Int) (f : Nat → Int) (n : Nat) (b : Int) (g : Nat → Int) (m : Nat) (c : Int) (h : Nat → Int) (k : Nat) :
    ASpec Try.prog 6 [.int .i64 a, .ro n (famL (i64F f) n), .int .i64 b, .ro m (famL (i64F g) m), .int .i64 c, .ro k (famL (i64F h) k)] (.bool true) := by
  refine ASpec.start 1000 Try.func6 (fn := Try.f6) rfl (by decide) mixed (by kernel_rfl) (by simp) ?_
  simp (disch := omega) [ini, upd_eq, tyNum]
  refine callT_of known rfl rfl ?_
  simp (disch := omega) [upd_eq, tyNum]
  refine callT_of (make a f n) rfl rfl ?_
  simp (disch := omega) [upd_eq, tyNum]
  refine callT_of (make b g m) rfl rfl ?_
  simp (disch := omega) [upd_eq, tyNum]
  refine callT_of (make c h k) rfl rfl ?_
  have hX := mkN_lt a f n
  have hY := mkN_lt b g m
  have hZ := mkN_lt c h k
  generalize mkN a f n = X at *
  generalize mkN b g m = Y at *
  generalize mkN c h k = Z at *
  simp (disch := omega) [upd_eq, tyNum]
  obtain ⟨S1, c1, hS1, r1, s1⟩ := addR hX hY
  refine callT_of s1 rfl rfl ?_
  simp (disch := omega) [upd_eq, tyNum]
  obtain ⟨S2, c2, hS2, r2, s2⟩ := addR hS1 hZ
  refine callT_of s2 rfl rfl ?_
  simp (disch := omega) [upd_eq, tyNum]
  obtain ⟨S3, c3, hS3, r3, s3⟩ := addR hY hZ
  refine callT_of s3 rfl rfl ?_
  simp (disch := omega) [upd_eq, tyNum]
  obtain ⟨S4, c4, hS4, r4, s4⟩ := addR hX hS3
  refine callT_of s4 rfl rfl ?_
  simp (disch := omega) [upd_eq, tyNum]
  obtain ⟨D1, e1, hD1, q1, t1⟩ := subR hX hY
  refine callT_of t1 rfl rfl ?_
  simp (disch := omega) [upd_eq, tyNum]
  obtain ⟨D2, e2, hD2, q2, t2⟩ := subR hD1 hZ
  refine callT_of t2 rfl rfl ?_
  simp (disch := omega) [upd_eq, tyNum]
  obtain ⟨D3, e3, hD3, q3, t3⟩ := subR hX hZ
  refine callT_of t3 rfl rfl ?_
  simp (disch := omega) [upd_eq, tyNum]
  obtain ⟨D4, e4, hD4, q4, t4⟩ := subR hD3 hY
  refine callT_of t4 rfl rfl ?_
  have i1 : S2 = S4 := by omega
  have i2 : c1 + c2 = c3 + c4 := by omega
  have i3 : D2 = D4 := by omega
  have i4 : e1 + e2 = e3 + e4 := by omega
  simp (disch := omega) [upd_eq, tyNum, eql_num, i1, i3, show (c1 : Int) + c2 = c3 + c4 by omega, show (e1 : Int) + e2 = e3 + e4 by omega, resA_L Try.results6]
end Go.Proofs.Ytfgojdnakidifaa
