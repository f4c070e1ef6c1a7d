/-
  The document's products.
-/
import Derived.Test.YtfgojdnakidifaaLimb7
set_option linter.unusedSimpArgs false
set_option linter.unusedVariables false
namespace Go.Proofs.Ytfgojdnakidifaa
open Go.Am

theorem wide_get {N i : Nat} (h : i < 16) : (wide N)[i]? = some (limbA N i) := famL_get _ _ _ h
theorem rmul (A B : Nat) (hA : A < W) (hB : B < W) : ASpec Try.prog 34 [num A, num B] (.tup [num (A * B % W), num (A * B / W)]) := by
  rw [num_mod]
  refine ASpec.startX [17, 18] 1000 Try.func34 (fn := Try.f34) rfl (by decide) mixed (by kernel_rfl) (by simp) ?_
  simp (disch := omega) [ini, upd_eq, tyNum, tyWide]
  refine goT_count (fun i => [(2, .ptr 0 0), (3, .ptr 1 0), (4, .ptr 2 0), (5, .ptr 3 0), (6, .ptr 4 0), (7, .int .i64 (i : Nat))])
    (fun i => [(0, ⟨numL A, true⟩), (1, ⟨numL B, true⟩), (2, ⟨numL 0, true⟩), (3, ⟨numL 0, true⟩), (4, ⟨wide (pp A B i), true⟩)]) 5 8 ?_ ?_ ?_
  · intro i hi IH
    refine goT_round mixed 100 ?_
    simp (disch := omega) [st_eq, upd_eq, show (i : Int) < 8 by omega]
    refine goT_count (fun k => [(2, .ptr 0 0), (3, .ptr 1 0), (4, .ptr 2 0), (5, .ptr 3 0), (6, .ptr 4 0), (7, .int .i64 (i : Nat)), (8, .int .u64 (mcar (limb A i) B (pp A B i / 2 ^ (32 * i)) k : Nat)), (9, .int .i64 (k : Nat))])
      (fun k => [(0, ⟨numL A, true⟩), (1, ⟨numL B, true⟩), (2, ⟨numL 0, true⟩), (3, ⟨numL 0, true⟩), (4, ⟨mulL A B i k, true⟩)]) 5 8 ?_ ?_ ?_
    · intro k hk IH'
      refine goT_round mixed 100 ?_
      have hs := mcar_step (limb A i) B (pp A B i / 2 ^ (32 * i)) k
      have hc := mcar_lt (a := limb A i) (B := B) (Y := pp A B i / 2 ^ (32 * i)) (k := k) (limb_lt _ _)
      have hc1 := mcar_lt (a := limb A i) (B := B) (Y := pp A B i / 2 ^ (32 * i)) (k := k + 1) (limb_lt _ _)
      have hg := mulL_get (A := A) (B := B) hi hk
      have hset := mulL_set (A := A) (B := B) (i := i) (k := k) rfl
      have ha := limb_lt A i
      have hb := limb_lt B k
      have hy := limb_lt (pp A B i / 2 ^ (32 * i)) k
      have ht := limb_lt (limb A i * B + pp A B i / 2 ^ (32 * i)) k
      have hm : limb A i * limb B k ≤ 4294967295 * 4294967295 := Nat.mul_le_mul (by omega) (by omega)
      have e0 : (limb A i : Int) * limb B k = (limb A i * limb B k : Nat) := rfl
      generalize limb A i * limb B k = m at *
      have e1 : ((mcar (limb A i) B (pp A B i / 2 ^ (32 * i)) k : Int) + m + limb (pp A B i / 2 ^ (32 * i)) k) % 4294967296 = limb (limb A i * B + pp A B i / 2 ^ (32 * i)) k := by omega
      have e2 : ((mcar (limb A i) B (pp A B i / 2 ^ (32 * i)) k : Int) + m + limb (pp A B i / 2 ^ (32 * i)) k) / 4294967296 = mcar (limb A i) B (pp A B i / 2 ^ (32 * i)) (k + 1) := by omega
      have e3 : ((i : Int) + k).toNat = i + k := by omega
      simp (disch := omega) [st_eq, upd_eq, tyNum, tyU32, tyU64, tyWide, show (i : Int) < 8 by omega, show (k : Int) < 8 by omega, numL_get hk, numL_get hi, limbA_def, in_u64, in_i64, w_u32, binA_shr, e0, e3, hg, show (i : Int) + k < 16 by omega, show 0 ≤ (i : Int) + k by omega, show i + k < 16 by omega, e1, e2, store_int]
      refine IH' _ ⟨?_, ?_⟩
      · simp [upd_eq, refsLt]
      · simp [upd_eq]
        exact hset
    · refine goT_round mixed 100 ?_
      have hc := mcar_lt (a := limb A i) (B := B) (Y := pp A B i / 2 ^ (32 * i)) (k := 8) (limb_lt _ _)
      have hset := mulL_last (A := A) (B := B) (i := i) hB
      have e3 : ((i : Int) + 8).toNat = i + 8 := by omega
      simp (disch := omega) [st_eq, upd_eq, tyNum, tyU32, tyU64, tyWide, in_u32, in_i64, e3, show (i : Int) + 8 < 16 by omega, show 0 ≤ (i : Int) + 8 by omega, show i + 8 < 16 by omega, store_int, hset]
      exact IH _ ⟨by simp [upd_eq, refsLt], by simp [upd_eq]⟩
    · exact ⟨by simp [upd_eq, refsLt, mcar_zero], by simp [upd_eq, mulL_zero]⟩
  · refine goT_round mixed 100 ?_
    rw [pp_all hA]
    simp (disch := omega) [st_eq, upd_eq, tyNum, tyWide]
    refine goT_count (fun i => [(4, .ptr 2 0), (5, .ptr 3 0), (6, .ptr 4 0), (10, .ptr 5 0), (11, .ptr 6 0), (12, .int .i64 (i : Nat))])
      (fun i => [(2, ⟨numL 0, true⟩), (3, ⟨numL 0, true⟩), (4, ⟨wide (A * B), true⟩), (5, ⟨mixN (A * B) 0 i, true⟩), (6, ⟨mixN (A * B / W) 0 i, true⟩)]) 7 8 ?_ ?_ ?_
    · intro i hi IH
      refine goT_round mixed 100 ?_
      have e3 : ((i : Int) + 8).toNat = i + 8 := by omega
      have hup : limb (A * B) (i + 8) = limb (A * B / W) i := by rw [Nat.add_comm, limb_up]; rfl
      have hg := wide_get (N := A * B) (i := i) (by omega)
      have hg2 := wide_get (N := A * B) (i := i + 8) (by omega)
      simp (disch := omega) [st_eq, upd_eq, show (i : Int) < 8 by omega]
      refine goT_region2 mixed [(63, 65)] 100 (by kernel_rfl) ?_
      simp (disch := omega) [st_eq, upd_eq, tyNum, tyU32, tyWide, in_i64, e3, show (i : Int) < 8 by omega, show (i : Int) < 16 by omega, show (i : Int) + 8 < 16 by omega, show 0 ≤ (i : Int) + 8 by omega, hi, hg, hg2, limbA_def, hup, store_int]
      refine ⟨by simp [dynOk, ptrNe, upd_eq], IH _ ⟨?_, ?_⟩⟩
      · simp [upd_eq, refsLt]
      · simp [upd_eq]
        exact ⟨mixN_set rfl, mixN_set rfl⟩
    · refine goT_round mixed 100 ?_
      simp (disch := omega) [st_eq, upd_eq]
      refine goT_region2 mixed [(11, 4)] 100 (by kernel_rfl) ?_
      simp (disch := omega) [dynOk, ptrNe, upd_eq, tyNum, resA_L Try.results34]
    · exact ⟨by simp [upd_eq, refsLt], by simp [upd_eq]⟩
  · exact ⟨by simp [upd_eq, refsLt], by simp [upd_eq, wide_zero (A := A) (B := B)]⟩
end Go.Proofs.Ytfgojdnakidifaa
