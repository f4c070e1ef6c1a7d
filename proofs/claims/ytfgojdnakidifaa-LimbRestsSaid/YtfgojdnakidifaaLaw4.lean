/-
  Statements of limb: what is left; sums, differences, products.
-/
import Derived.Test.YtfgojdnakidifaaLaw2
set_option linter.unusedSimpArgs false
set_option linter.unusedVariables false
namespace Go.Proofs.Ytfgojdnakidifaa
open Go.Am

set_option maxRecDepth 16000 in
theorem law_LimbRests (a : Int) (f : Nat → Int) (n : Nat) (b : Int) (g : Nat → Int) (m : Nat) (c : Int) (h : Nat → Int) (k : Nat) (z : Int) :
    ASpec Try.prog 14 [.int .i64 a, .ro n (famL (i64F f) n), .int .i64 b, .ro m (famL (i64F g) m), .int .i64 c, .ro k (famL (i64F h) k), .int .i64 z] (.bool true) := by
  refine ASpec.startX [9] 1000 Try.func14 (fn := Try.f14) rfl (by decide) mixed (by kernel_rfl) (by simp) ?_
  have h0W := W_big
  simp (disch := omega) [ini, upd_eq, tyNum]
  refine callT_of known rfl rfl ?_
  simp (disch := omega) [upd_eq, tyNum]
  refine callT_of (make a f n) rfl rfl ?_
  simp (disch := omega) [upd_eq, tyNum]
  refine callT_of (make b g m) rfl rfl ?_
  simp (disch := omega) [upd_eq, tyNum]
  refine callT_of (make c h k) rfl rfl ?_
  have hX := mkN_lt a f n
  have hY := mkN_lt b g m
  have hM := mkN_lt c h k
  generalize mkN a f n = X at *
  generalize mkN b g m = Y at *
  generalize mkN c h k = M at *
  simp (disch := omega) [upd_eq, tyNum]
  by_cases hM0 : M = 0
  · subst hM0
    have s1 := rest X Y 0 hX hY hM
    simp only [restN, if_true] at s1
    refine callT_of s1 rfl rfl ?_
    simp (disch := omega) [upd_eq, tyNum, build_num, eql_num, resA_L Try.results14]
  obtain ⟨R, hR, hRM, s1⟩ := restR hX hY hM hM0
  refine callT_of s1 rfl rfl ?_
  simp (disch := omega) [upd_eq, tyNum, build_num, eql_num, hM0]
  obtain ⟨H, hH, hHM, s2⟩ := restR (lo := Y) (hi := 0) hY (by omega) hM hM0
  refine callT_of s2 rfl rfl ?_
  simp (disch := omega) [upd_eq, tyNum]
  obtain ⟨S, hS, hSM, s3⟩ := restR (lo := X) (hi := H) hX (by omega) hM hM0
  refine callT_of s3 rfl rfl ?_
  simp (disch := omega) [upd_eq, tyNum]
  have s4 := within z 1073741824 (by decide) (by decide)
  have hz1 := Int.emod_nonneg z (show (1073741824 : Int) ≠ 0 by decide)
  have hz2 := Int.emod_lt_of_pos z (show (0 : Int) < 1073741824 by decide)
  obtain ⟨q, hq⟩ : ∃ q : Nat, z % 1073741824 = q := ⟨(z % 1073741824).toNat, by omega⟩
  rw [hq] at s4
  have hqW : q < W := by omega
  obtain ⟨L, G, hL, hG, hLG, s6⟩ := mulR hM hqW
  refine goT_region3 mixed 8 (by kernel_rfl) (by kernel_rfl) rfl 8
    [(15, .ptr 0 0), (16, .ptr 1 0), (17, .ptr 2 0), (18, .ptr 3 0), (19, .bool true), (22, .ptr 5 0), (24, .ptr 6 0), (25, .ptr 7 0)]
    [(0, ⟨numL X, true⟩), (1, ⟨numL Y, true⟩), (2, ⟨numL M, true⟩), (3, ⟨numL R, true⟩), (5, ⟨numL S, true⟩), (6, ⟨numL L, true⟩), (7, ⟨numL G, true⟩)] ?_ ?_
  · refine goT_run mixed 900 ?_
    simp (disch := omega) [st_eq, upd_eq, tyNum]
    obtain ⟨T, hT, hTM, s7⟩ := restR hL hG hM hM0
    refine callT_of s7 rfl rfl ?_
    simp (disch := omega) [upd_eq, tyNum, build_num]
    obtain ⟨U, hU, hUM, s8⟩ := restR (lo := R) (hi := 0) (by omega) (by omega) hM hM0
    refine callT_of s8 rfl rfl ?_
    simp (disch := omega) [upd_eq, tyNum]
    obtain ⟨V, c1, hV, q1, s9⟩ := addR (show R < W by omega) hM
    refine callT_of s9 rfl rfl ?_
    simp (disch := omega) [upd_eq, tyNum, tyU32, tyInt, in_i64]
    refine callT_of (fromN c1 (by omega)) rfl rfl ?_
    simp (disch := omega) [upd_eq, tyNum]
    obtain ⟨Z, hZ, hZM, s10⟩ := restR (lo := V) (hi := c1) hV (by omega) hM hM0
    refine callT_of s10 rfl rfl ?_
    simp (disch := omega) [upd_eq, tyNum]
    refine callT_of (cmp R M (by omega) hM) rfl rfl ?_
    have e0 : cmpZ R M = -1 := by simp [cmpZ, hRM]
    have e1 : S = R := by
      rw [hS, hR, hH, Nat.zero_mul, Nat.zero_add, Nat.add_mod, Nat.mul_mod, Nat.mod_mod, ← Nat.mul_mod, ← Nat.add_mod]
    have e2 : T = 0 := by rw [hT, hLG]; exact Nat.mul_mod_right _ _
    have e3 : U = R := by rw [hU, Nat.zero_mul, Nat.zero_add]; exact Nat.mod_eq_of_lt hRM
    have e4 : Z = R := by
      have : c1 * W + V = R + M := by rcases q1 with ⟨rfl, h1⟩ | ⟨rfl, h1⟩ <;> omega
      rw [hZ, this, Nat.add_mod_right]
      exact Nat.mod_eq_of_lt hRM
    simp (disch := omega) [upd_eq, tyNum, eql_num, build_num, e0, e1, e2, e3, e4, resA_L Try.results14]
  · simp (disch := omega) [upd_eq, tyNum]
    refine callT_of s4 rfl rfl ?_
    simp (disch := omega) [upd_eq, tyNum]
    refine callT_of (fromN q (by omega)) rfl rfl ?_
    simp (disch := omega) [upd_eq, tyNum]
    refine callT_of s6 rfl rfl ?_
    simp (disch := omega) [upd_eq, tyNum]
    refine ⟨⟨?_, ?_, ?_⟩, ⟨fun i => if i = 6 then 7 else if i = 7 then 6 else i, ?_, ?_, ?_⟩⟩
    · simp [upd_eq, ren, refsLt]
    · simp [upd_eq]
    · exact fun _ _ _ _ h => h
    · simp [upd_eq, ren, refsLt]
    · simp [upd_eq]
    · intro p _ q _ h
      generalize p.fst = i at *
      generalize q.fst = j at *
      (repeat' split at h) <;> omega
end Go.Proofs.Ytfgojdnakidifaa
