/-
  Statements of limb: small numbers; known ones.
-/
import Derived.Test.YtfgojdnakidifaaLaw6
set_option linter.unusedSimpArgs false
set_option linter.unusedVariables false
namespace Go.Proofs.Ytfgojdnakidifaa
open Go.Am

theorem numL_eight (N : Nat) : numL N = [limbA N 0, limbA N 1, limbA N 2, limbA N 3, limbA N 4, limbA N 5, limbA N 6, limbA N 7] := rfl
theorem numL_all : numL (W - 1) = [.int .u32 4294967295, .int .u32 4294967295, .int .u32 4294967295, .int .u32 4294967295, .int .u32 4294967295, .int .u32 4294967295, .int .u32 4294967295, .int .u32 4294967295] := by
  rw [numL_eight]
  simp only [limbA, limb_def]
  rfl
def topN : Nat := 2 ^ 255
theorem numL_top : numL topN = [.int .u32 0, .int .u32 0, .int .u32 0, .int .u32 0, .int .u32 0, .int .u32 0, .int .u32 0, .int .u32 2147483648] := by
  rw [numL_eight]
  simp only [limbA, limb_def]
  rfl
theorem build_all {e : TypeId} : buildA ⟨8, 32, true, numL 0, .array 8 e 1 false⟩ [(0, .int .u32 4294967295), (1, .int .u32 4294967295), (2, .int .u32 4294967295), (3, .int .u32 4294967295), (4, .int .u32 4294967295), (5, .int .u32 4294967295), (6, .int .u32 4294967295), (7, .int .u32 4294967295)] = some (num (W - 1)) := by
  rw [num, numL_all]; rfl
theorem build_top {e : TypeId} : buildA ⟨8, 32, true, numL 0, .array 8 e 1 false⟩ [(0, .int .u32 0), (1, .int .u32 0), (2, .int .u32 0), (3, .int .u32 0), (4, .int .u32 0), (5, .int .u32 0), (6, .int .u32 0), (7, .int .u32 2147483648)] = some (num topN) := by
  rw [num, numL_top]; rfl

set_option maxHeartbeats 2000000 in
set_option maxRecDepth 16000 in
theorem law_LimbKnown (which : Int) : ASpec Try.prog 11 [.int .i64 which] (.bool true) := by
  refine ASpec.startX [18] 1000 Try.func11 (fn := Try.f11) rfl (by decide) mixed (by kernel_rfl) (by simp) ?_
  have h0W := W_big
  simp (disch := omega) [ini, upd_eq, tyNum]
  refine callT_of known rfl rfl ?_
  simp (disch := omega) [upd_eq, tyNum, build_all, build_top]
  refine callT_of (fromN 1 (by omega)) rfl rfl ?_
  have hT : topN < W := Nat.pow_lt_pow_right (by decide) (by decide)
  have hT2 : topN * 2 = W := rfl
  have hT3 : blen topN = 256 := blen_eq (k := 255) (Nat.le_refl _) (Nat.pow_lt_pow_right (by decide) (by decide))
  obtain ⟨A, hA⟩ : ∃ A, A = W - 1 := ⟨_, rfl⟩
  rw [← hA]
  generalize topN = T at *
  simp (disch := omega) [upd_eq, tyNum]
  refine callT_of (within which 6 (by decide) (by decide)) rfl rfl ?_
  have h0 := Int.emod_nonneg which (show (6 : Int) ≠ 0 by decide)
  have h6 := Int.emod_lt_of_pos which (show (0 : Int) < 6 by decide)
  rcases (by omega : which % 6 = 0 ∨ which % 6 = 1 ∨ which % 6 = 2 ∨ which % 6 = 3 ∨ which % 6 = 4 ∨ which % 6 = 5) with h | h | h | h | h | h <;> rw [h]
  · simp (disch := omega) [upd_eq, tyNum]
    obtain ⟨S, c, hS, q, s⟩ := addR (X := A) (Y := 1) (by omega) (by omega)
    obtain ⟨rfl, rfl⟩ : S = 0 ∧ c = 1 := by omega
    refine callT_of s rfl rfl ?_
    simp (disch := omega) [upd_eq, tyNum, build_num, eql_num, resA_L Try.results11]
  · simp (disch := omega) [upd_eq, tyNum, build_num]
    obtain ⟨S, c, hS, q, s⟩ := subR (X := 0) (Y := 1) (by omega) (by omega)
    obtain ⟨rfl, rfl⟩ : S = A ∧ c = 1 := by omega
    refine callT_of s rfl rfl ?_
    simp (disch := omega) [upd_eq, tyNum, build_num, eql_num, resA_L Try.results11]
  · simp (disch := omega) [upd_eq, tyNum]
    obtain ⟨L, H, hL, hH, hLH, s⟩ := mulR (X := A) (Y := A) (by omega) (by omega)
    obtain ⟨rfl, rfl⟩ := uniq (A := L) (A' := 1) (B := H) (B' := A - 1) hL (by omega) (by
      rw [hLH, show W = A + 1 by omega, Nat.sub_mul, Nat.mul_add]
      have : A ≤ A * A := Nat.le_mul_of_pos_left A (by omega)
      omega)
    refine callT_of s rfl rfl ?_
    simp (disch := omega) [upd_eq, tyNum]
    obtain ⟨S, c, hS, q, s2⟩ := subR (X := A) (Y := 1) (by omega) (by omega)
    obtain ⟨rfl, rfl⟩ : S = A - 1 ∧ c = 0 := by omega
    refine callT_of s2 rfl rfl ?_
    simp (disch := omega) [upd_eq, tyNum, eql_num, resA_L Try.results11]
  · simp (disch := omega) [upd_eq, tyNum]
    obtain ⟨L, H, hL, hH, hLH, s⟩ := mulR (X := T) (Y := 2) (by omega) (by omega)
    obtain ⟨rfl, rfl⟩ := uniq (A := L) (A' := 0) (B := H) (B' := 1) hL (by omega) (by omega)
    refine goT_region3 mixed 6 (by kernel_rfl) (by kernel_rfl) rfl 5
      [(5, .ptr 2 0), (14, .ptr 3 0), (15, .ptr 4 0)] [(2, ⟨numL 1, true⟩), (3, ⟨numL 0, true⟩), (4, ⟨numL 1, true⟩)] ?_ ?_
    · refine goT_run mixed 900 ?_
      simp (disch := omega) [st_eq, upd_eq, tyNum, build_num, eql_num, resA_L Try.results11]
    · simp (disch := omega) [upd_eq, tyNum]
      refine callT_of (fromN 2 (by omega)) rfl rfl ?_
      simp (disch := omega) [upd_eq, tyNum]
      refine callT_of s rfl rfl ?_
      simp (disch := omega) [upd_eq, tyNum]
      refine ⟨⟨?_, ?_, ?_⟩, ⟨fun i => if i = 3 then 4 else if i = 4 then 3 else i, ?_, ?_, ?_⟩⟩
      · simp [upd_eq, ren, refsLt]
      · simp [upd_eq]
      · exact fun _ _ _ _ h => h
      · simp [upd_eq, ren, refsLt]
      · simp [upd_eq]
      · intro p _ q _ h
        generalize p.fst = i at *
        generalize q.fst = j at *
        (repeat' split at h) <;> omega
  · simp (disch := omega) [upd_eq, tyNum]
    obtain ⟨R, hR, hRM, s⟩ := restR (lo := A) (hi := A) (m := A) (by omega) (by omega) (by omega) (by omega)
    have : R = 0 := by rw [hR, show A * W + A = A * (W + 1) by rw [Nat.mul_add]; omega]; exact Nat.mul_mod_right _ _
    subst this
    refine callT_of s rfl rfl ?_
    simp (disch := omega) [upd_eq, tyNum, build_num, eql_num, resA_L Try.results11]
  · simp (disch := omega) [upd_eq, tyNum, build_num]
    obtain ⟨R, hR, hRM, s⟩ := restR (lo := 0) (hi := 1) (m := A) (by omega) (by omega) (by omega) (by omega)
    have : R = 1 := by rw [hR, show 1 * W + 0 = A + 1 by omega, Nat.add_mod_left]; exact Nat.mod_eq_of_lt (by omega)
    subst this
    refine callT_of s rfl rfl ?_
    simp (disch := omega) [upd_eq, tyNum, build_num, eql_num]
    refine callT_of (bits T (by omega)) rfl rfl ?_
    simp (disch := omega) [upd_eq, tyNum, build_num, eql_num, hT3]
    refine callT_of (bits 0 (by omega)) rfl rfl ?_
    simp (disch := omega) [upd_eq, tyNum, blen_zero, resA_L Try.results11]

theorem fromI (n : Int) (N : Nat) (h : n = N) (hN : N < 9223372036854775808) : ASpec Try.prog 22 [.int .i64 n] (num N) := by
  subst h; exact fromN N hN
theorem max_int {k q : IntKind} {x y : Int} : maxA (.int k x) (.int q y) = some (.int k (if y > x then y else x)) := rfl
theorem min_int {k q : IntKind} {x y : Int} : minA (.int k x) (.int q y) = some (.int k (if y < x then y else x)) := rfl
theorem blt_max {P : Program} {x y : AV} {ts : List TypeId} {h : HP} : bltA P .max [x, y] ts h = (maxA x y).map fun v => (v, h) := rfl
theorem blt_min {P : Program} {x y : AV} {ts : List TypeId} {h : HP} : bltA P .min [x, y] ts h = (minA x y).map fun v => (v, h) := rfl
set_option maxHeartbeats 2000000 in
set_option maxRecDepth 16000 in
theorem law_LimbSmall (a b c : Int) : ASpec Try.prog 10 [.int .i64 a, .int .i64 b, .int .i64 c] (.bool true) := by
  refine ASpec.start 1000 Try.func10 (fn := Try.f10) rfl (by decide) mixed (by kernel_rfl) (by simp) ?_
  have h0W := W_big
  simp (disch := omega) [ini, upd_eq, tyNum]
  refine callT_of known rfl rfl ?_
  have within31 : ∀ x : Int, ∃ X : Nat, X < 2147483648 ∧ ASpec Try.prog 21 [.int .i64 x, .int .i64 2147483648] (.int .i64 (X : Nat)) := fun x => by
    have h := within x 2147483648 (by decide) (by decide)
    have h1 := Int.emod_nonneg x (show (2147483648 : Int) ≠ 0 by decide)
    have h2 := Int.emod_lt_of_pos x (show (0 : Int) < 2147483648 by decide)
    refine ⟨(x % 2147483648).toNat, by omega, ?_⟩
    rwa [show (((x % 2147483648).toNat : Nat) : Int) = x % 2147483648 by omega]
  obtain ⟨X, hX, s1⟩ := within31 a
  obtain ⟨Y, hY, s2⟩ := within31 b
  obtain ⟨Z, hZ, s3⟩ := within31 c
  have hXY : X * Y < 2147483648 * 2147483648 := Nat.mul_lt_mul_of_lt_of_le hX (Nat.le_of_lt hY) (by decide)
  have eXY : (X : Int) * Y = ((X * Y : Nat) : Int) := by simp
  simp (disch := omega) [upd_eq, tyNum]
  refine callT_of s1 rfl rfl ?_
  simp (disch := omega) [upd_eq, tyNum]
  refine callT_of s2 rfl rfl ?_
  simp (disch := omega) [upd_eq, tyNum]
  refine callT_of s3 rfl rfl ?_
  simp (disch := omega) [upd_eq, tyNum, in_i64]
  refine callT_of (fromN X (by omega)) rfl rfl ?_
  simp (disch := omega) [upd_eq, tyNum]
  refine callT_of (fromN Y (by omega)) rfl rfl ?_
  simp (disch := omega) [upd_eq, tyNum]
  obtain ⟨L, H, hL, hH, hLH, s4⟩ := mulR (X := X) (Y := Y) (by omega) (by omega)
  obtain ⟨rfl, rfl⟩ := uniq (A := L) (A' := X * Y) (B := H) (B' := 0) hL (by omega) (by omega)
  refine callT_of s4 rfl rfl ?_
  simp (disch := omega) [upd_eq, tyNum]
  refine callT_of (fromI (1 + (Z : Int)) (Z + 1) (by omega) (by omega)) rfl rfl ?_
  simp (disch := omega) [upd_eq, tyNum]
  obtain ⟨R, hR, hRM, s5⟩ := restR (lo := X * Y) (hi := 0) (m := Z + 1) hL hH (by omega) (by omega)
  refine callT_of s5 rfl rfl ?_
  rw [Nat.zero_mul, Nat.zero_add] at hR
  simp (disch := omega) [upd_eq, tyNum]
  refine callT_of (fromN X (by omega)) rfl rfl ?_
  simp (disch := omega) [upd_eq, tyNum]
  refine callT_of (fromN Y (by omega)) rfl rfl ?_
  simp (disch := omega) [upd_eq, tyNum]
  refine callT_of (add_small (a := X) (b := Y) (by omega)) rfl rfl ?_
  have hR2 : ((X : Int) * Y) % (1 + Z) = (R : Nat) := by
    rw [hR, eXY, show (1 + (Z : Int)) = ((Z + 1 : Nat) : Int) by omega]
    exact (Int.natCast_emod _ _).symm
  have hM : ∃ A B : Nat, A < 2147483648 ∧ B ≤ A ∧ (if X < Y then (Y : Int) else X) = A ∧ (if Y < X then (Y : Int) else X) = B := by
    by_cases h : X < Y
    · exact ⟨Y, X, hY, by omega, by rw [if_pos (by omega)], by rw [if_neg (by omega)]⟩
    · refine ⟨X, Y, hX, by omega, by rw [if_neg (by omega)], ?_⟩
      by_cases h2 : Y < X
      · rw [if_pos (by omega)]
      · rw [if_neg (by omega)]; omega
  obtain ⟨A, B, hA, hBA, eA, eB⟩ := hM
  obtain ⟨D, e, hD, q, s6⟩ := subR (X := A) (Y := B) (by omega) (by omega)
  obtain ⟨rfl, rfl⟩ : D = A - B ∧ e = 0 := by omega
  simp (disch := omega) [upd_eq, tyNum, blt_max, blt_min, max_int, min_int, eA, eB]
  refine callT_of (fromN A (by omega)) rfl rfl ?_
  simp (disch := omega) [upd_eq, tyNum, blt_max, blt_min, max_int, min_int, eA, eB]
  refine callT_of (fromN B (by omega)) rfl rfl ?_
  simp (disch := omega) [upd_eq, tyNum]
  refine callT_of s6 rfl rfl ?_
  simp (disch := omega) [upd_eq, tyNum, in_i64]
  refine callT_of (fromI ((X : Int) * Y) (X * Y) eXY (by omega)) rfl rfl ?_
  simp (disch := omega) [upd_eq, tyNum, build_num, eql_num, in_i64, binA_rem, hR2]
  refine callT_of (fromN R (by omega)) rfl rfl ?_
  simp (disch := omega) [upd_eq, tyNum, build_num, eql_num, in_i64]
  refine callT_of (fromI ((X : Int) + Y) (X + Y) (by omega) (by omega)) rfl rfl ?_
  simp (disch := omega) [upd_eq, tyNum, build_num, eql_num, in_i64, blt_max, blt_min, max_int, min_int, eA, eB]
  refine callT_of (fromI ((A : Int) - B) (A - B) (by omega) (by omega)) rfl rfl ?_
  simp (disch := omega) [upd_eq, tyNum, build_num, eql_num, in_i64]
  refine callT_of (from_ (-1 - (X : Int)) (by omega) (by omega)) rfl rfl ?_
  simp (disch := omega) [upd_eq, tyNum, build_num, eql_num, show (-1 - (X : Int)).toNat = 0 by omega, resA_L Try.results10]
end Go.Proofs.Ytfgojdnakidifaa
