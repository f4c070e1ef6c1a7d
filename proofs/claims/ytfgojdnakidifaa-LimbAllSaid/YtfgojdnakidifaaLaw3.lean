/-
  Statements of limb: what is left; all is the document's.
-/
import Derived.Test.YtfgojdnakidifaaLaw2
set_option linter.unusedSimpArgs false
set_option linter.unusedVariables false
namespace Go.Proofs.Ytfgojdnakidifaa
open Go.Am

set_option maxRecDepth 16000 in
theorem law_LimbAll (a : Int) (f : Nat → Int) (n : Nat) (b : Int) (g : Nat → Int) (m : Nat) (c : Int) (h : Nat → Int) (k : Nat) (z : Int) (hz : -9223372036854775808 ≤ z ∧ z < 9223372036854775808) :
    ASpec Try.prog 13 [.int .i64 a, .ro n (famL (i64F f) n), .int .i64 b, .ro m (famL (i64F g) m), .int .i64 c, .ro k (famL (i64F h) k), .int .i64 z] (.bool true) := by
  refine ASpec.start 1000 Try.func13 (fn := Try.f13) rfl (by decide) mixed (by kernel_rfl) (by simp) ?_
  have h0W := W_big
  simp (disch := omega) [ini, upd_eq, tyNum]
  refine callT_of known rfl rfl ?_
  simp (disch := omega) [upd_eq, tyNum]
  refine callT_of (make a f n) rfl rfl ?_
  simp (disch := omega) [upd_eq, tyNum]
  refine callT_of (make b g m) rfl rfl ?_
  simp (disch := omega) [upd_eq, tyNum]
  refine callT_of (make c h k) rfl rfl ?_
  have hX := mkN_lt a f n
  have hY := mkN_lt b g m
  have hZ := mkN_lt c h k
  generalize mkN a f n = X at *
  generalize mkN b g m = Y at *
  generalize mkN c h k = Z at *
  have hm : ∀ A, A % W < W := fun A => Nat.mod_lt _ W_pos
  have s1 := add X Y hX hY
  have s2 := radd X Y hX hY
  have s3 := sub X Y hX hY
  have s4 := rsub X Y hX hY
  have s5 := mul X Y hX hY
  have s6 := rmul X Y hX hY
  have s7 := rest X Y Z hX hY hZ
  have s8 := rrest X Y Z hX hY hZ
  have s9 := cmp X Y hX hY
  have s10 := rcmp X Y hX hY
  have s11 := bits X hX
  have s12 := rbits X hX
  have s13 := from_ z hz.1 hz.2
  have s14 := rfrom z hz.1 hz.2
  obtain ⟨y, hy, ey⟩ := wrap32_nat z
  have s15 := pick y X Y
  have s16 := rpick y X Y
  have hA := hm (X + Y)
  have hB := hm (X + W - Y)
  have hC := hm (X * Y)
  have hD : X * Y / W < W := Nat.div_lt_of_lt_mul (Nat.mul_lt_mul_of_lt_of_le hX (Nat.le_of_lt hY) W_pos)
  have hE : restN (Y * W + X) Z < W := by
    unfold restN
    split
    · omega
    · exact Nat.lt_of_lt_of_le (Nat.mod_lt _ (by omega)) (Nat.le_of_lt hZ)
  have hF : z.toNat < W := by omega
  have hG : (if y = 0 then Y else X) < W := by split <;> assumption
  generalize (X + Y) % W = A at *
  generalize (X + Y) / W = A' at *
  generalize (X + W - Y) % W = B at *
  generalize (if X < Y then 1 else 0) = B' at *
  generalize X * Y % W = C at *
  generalize X * Y / W = D at *
  generalize restN (Y * W + X) Z = E at *
  generalize (if y = 0 then Y else X) = G at *
  generalize z.toNat = F at *
  generalize decide (Z ≠ 0) = E' at *
  simp (disch := omega) [upd_eq, tyNum]
  refine callT_of s1 rfl rfl ?_
  simp (disch := omega) [upd_eq, tyNum]
  refine callT_of s2 rfl rfl ?_
  simp (disch := omega) [upd_eq, tyNum]
  refine callT_of s3 rfl rfl ?_
  simp (disch := omega) [upd_eq, tyNum]
  refine callT_of s4 rfl rfl ?_
  simp (disch := omega) [upd_eq, tyNum]
  refine callT_of s5 rfl rfl ?_
  simp (disch := omega) [upd_eq, tyNum]
  refine callT_of s6 rfl rfl ?_
  simp (disch := omega) [upd_eq, tyNum]
  refine callT_of s7 rfl rfl ?_
  simp (disch := omega) [upd_eq, tyNum]
  refine callT_of s8 rfl rfl ?_
  simp (disch := omega) [upd_eq, tyNum, eql_num, isBool]
  refine callT_of s9 rfl rfl ?_
  simp (disch := omega) [upd_eq, tyNum, eql_num, isBool]
  refine callT_of s10 rfl rfl ?_
  simp (disch := omega) [upd_eq, tyNum, eql_num, isBool]
  refine callT_of s11 rfl rfl ?_
  simp (disch := omega) [upd_eq, tyNum, eql_num, isBool]
  refine callT_of s12 rfl rfl ?_
  simp (disch := omega) [upd_eq, tyNum, eql_num, isBool]
  refine callT_of s13 rfl rfl ?_
  simp (disch := omega) [upd_eq, tyNum, eql_num, isBool]
  refine callT_of s14 rfl rfl ?_
  simp (disch := omega) [upd_eq, tyNum, eql_num, isBool, tyInt, tyU32, ey]
  refine callT_of s15 rfl rfl ?_
  simp (disch := omega) [upd_eq, tyNum, eql_num, isBool, tyInt, tyU32, ey]
  refine callT_of s16 rfl rfl ?_
  simp (disch := omega) [upd_eq, tyNum, eql_num, resA_L Try.results13]
end Go.Proofs.Ytfgojdnakidifaa
