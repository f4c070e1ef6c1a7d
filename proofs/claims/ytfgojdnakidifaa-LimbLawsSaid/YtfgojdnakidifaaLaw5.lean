/-
  Statements of limb: sums, differences, products.
-/
import Derived.Test.YtfgojdnakidifaaLaw2
set_option linter.unusedSimpArgs false
set_option linter.unusedVariables false
namespace Go.Proofs.Ytfgojdnakidifaa
open Go.Am

set_option maxHeartbeats 2000000 in
set_option maxRecDepth 16000 in
theorem law_LimbLaws (a : Int) (f : Nat → Int) (n : Nat) (b : Int) (g : Nat → Int) (m : Nat) (c : Int) (h : Nat → Int) (k : Nat) :
    ASpec Try.prog 9 [.int .i64 a, .ro n (famL (i64F f) n), .int .i64 b, .ro m (famL (i64F g) m), .int .i64 c, .ro k (famL (i64F h) k)] (.bool true) := by
  refine ASpec.start 1000 Try.func9 (fn := Try.f9) rfl (by decide) mixed (by kernel_rfl) (by simp) ?_
  have h0W := W_big
  simp (disch := omega) [ini, upd_eq, tyNum]
  refine callT_of known rfl rfl ?_
  simp (disch := omega) [upd_eq, tyNum]
  refine callT_of (make a f n) rfl rfl ?_
  simp (disch := omega) [upd_eq, tyNum]
  refine callT_of (make b g m) rfl rfl ?_
  simp (disch := omega) [upd_eq, tyNum]
  refine callT_of (make c h k) rfl rfl ?_
  have hX := mkN_lt a f n
  have hY := mkN_lt b g m
  have hZ := mkN_lt c h k
  generalize mkN a f n = X at *
  generalize mkN b g m = Y at *
  generalize mkN c h k = Z at *
  simp (disch := omega) [upd_eq, tyNum]
  obtain ⟨S, p, hS, q1, s1⟩ := addR hX hY
  refine callT_of s1 rfl rfl ?_
  simp (disch := omega) [upd_eq, tyNum]
  obtain ⟨D, q, hD, q2, s2⟩ := subR hS hY
  refine callT_of s2 rfl rfl ?_
  simp (disch := omega) [upd_eq, tyNum]
  obtain ⟨T, u, hT, q3, s3⟩ := addR hY hX
  refine callT_of s3 rfl rfl ?_
  simp (disch := omega) [upd_eq, tyNum]
  obtain ⟨L, H, hL, hH, hLH, s4⟩ := mulR hX hY
  refine callT_of s4 rfl rfl ?_
  simp (disch := omega) [upd_eq, tyNum]
  obtain ⟨L', H', hL', hH', hLH', s5⟩ := mulR hY hX
  refine callT_of s5 rfl rfl ?_
  obtain ⟨rfl, rfl⟩ := uniq hL hL' (by rw [hLH, hLH', Nat.mul_comm])
  have e1 : X = D := by omega
  have e2 : p = q := by omega
  have e3 : S = T := by omega
  have e4 : p = u := by omega
  subst e1 e2 e3 e4
  simp (disch := omega) [upd_eq, tyNum, neq_num]
  obtain ⟨E, v, hE, q4, s6⟩ := subR hX hY
  refine callT_of s6 rfl rfl ?_
  simp (disch := omega) [upd_eq, tyNum]
  obtain ⟨F, w, hF, q5, s7⟩ := subR hY hX
  refine callT_of s7 rfl rfl ?_
  simp (disch := omega) [upd_eq, tyNum]
  obtain ⟨G, o, hG, q6, s8⟩ := addR hE hF
  refine callT_of s8 rfl rfl ?_
  have e5 : G = 0 := by omega
  subst e5
  have hcm := cmp X Y hX hY
  obtain ⟨XL, XH, hXL, hXH, hXLH, s9⟩ := mulR hX hZ
  obtain ⟨YL, YH, hYL, hYH, hYLH, s10⟩ := mulR hY hZ
  obtain ⟨SL, SH, hSL, hSH, hSLH, s11⟩ := mulR hS hZ
  obtain ⟨LO, c1, hLO, q7, s12⟩ := addR hXL hYL
  obtain ⟨HI, c2, hHI, q8, s13⟩ := addR hXH hYH
  obtain ⟨HJ, c3, hHJ, q9, s14⟩ := addR hHI (show c1 < W by omega)
  obtain ⟨SJ, c4, hSJ, q10, s15⟩ := addR hSH hZ
  have key : (SH * W + SL) + p * W * Z = (XH * W + XL) + (YH * W + YL) := by
    rw [hXLH, hYLH, hSLH, ← Nat.add_mul, ← Nat.add_mul]
    congr 1
    rcases q1 with ⟨rfl, h1⟩ | ⟨rfl, h1⟩ <;> omega
  have hxz : X * Z < W * W := Nat.mul_lt_mul_of_lt_of_le hX (Nat.le_of_lt hZ) W_pos
  have hb1 : (X + Y) * Z ≤ 2 * (W * W) := by
    have := Nat.mul_le_mul (show X + Y ≤ 2 * W by omega) (Nat.le_of_lt hZ)
    rwa [Nat.mul_assoc] at this
  have k2 : SL + (SH + p * Z) * W = LO + (XH + YH + c1) * W := by
    rw [Nat.add_mul, Nat.add_mul, Nat.add_mul, Nat.mul_right_comm p Z W]
    rcases q7 with ⟨rfl, h1⟩ | ⟨rfl, h1⟩ <;> omega
  obtain ⟨f1, f2⟩ := uniq hSL hLO (by rw [Nat.add_comm, k2, Nat.add_comm])
  have f3 : p = 0 → SH = HJ := by
    intro hp
    subst hp
    rw [Nat.zero_mul, Nat.add_zero] at f2
    omega
  have f4 : p = 1 → SJ = HJ := by
    intro hp
    subst hp
    rw [Nat.one_mul] at f2
    omega
  rcases Nat.lt_trichotomy X Y with hlt | heq | hgt
  case' inl => obtain ⟨rfl, rfl⟩ : v = 1 ∧ w = 0 := by omega
  case' inl => simp (disch := omega) [upd_eq, tyNum, neq_num, eql_num, build_num, in_u32, show X ≠ Y by omega]
  case' inr.inl => subst heq
  case' inr.inl => obtain ⟨rfl, rfl⟩ : v = 0 ∧ w = 0 := by omega
  case' inr.inl => simp (disch := omega) [upd_eq, tyNum, neq_num, eql_num, build_num, in_u32]
  case' inr.inr => obtain ⟨rfl, rfl⟩ : v = 0 ∧ w = 1 := by omega
  case' inr.inr => simp (disch := omega) [upd_eq, tyNum, neq_num, eql_num, build_num, in_u32, show X ≠ Y by omega]
  case' inl => have e6 : cmpZ X Y = -1 := by simp [cmpZ, hlt]
  case' inr.inl => have e6 : cmpZ X X = 0 := by simp [cmpZ]
  case' inr.inr => have e6 : cmpZ X Y = 1 := by simp [cmpZ, hgt]; omega
  all_goals
    refine callT_of hcm rfl rfl ?_
    simp (disch := omega) [upd_eq, tyNum, isBool, e6]
    refine callT_of s9 rfl rfl ?_
    simp (disch := omega) [upd_eq, tyNum]
    refine callT_of s10 rfl rfl ?_
    simp (disch := omega) [upd_eq, tyNum]
    refine callT_of s11 rfl rfl ?_
    simp (disch := omega) [upd_eq, tyNum]
    refine callT_of s12 rfl rfl ?_
    simp (disch := omega) [upd_eq, tyNum]
    refine callT_of s13 rfl rfl ?_
    simp (disch := omega) [upd_eq, tyNum, tyU32, tyInt, in_i64]
    refine callT_of (fromN c1 (by omega)) rfl rfl ?_
    simp (disch := omega) [upd_eq, tyNum]
    refine callT_of s14 rfl rfl ?_
    rcases (by omega : p = 0 ∨ p = 1) with hp | hp
    · have := f3 hp
      simp (disch := omega) [upd_eq, tyNum, hp, eql_num, f1, this, resA_L Try.results9]
    · have := f4 hp
      simp (disch := omega) [upd_eq, tyNum, hp]
      refine callT_of s15 rfl rfl ?_
      simp (disch := omega) [upd_eq, tyNum, eql_num, f1, this, resA_L Try.results9]
end Go.Proofs.Ytfgojdnakidifaa
