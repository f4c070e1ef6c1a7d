/-
  The statements' own words: Make.
-/
import Derived.Test.YtfgojdnakidifaaLimb11
set_option linter.unusedSimpArgs false
set_option linter.unusedVariables false
namespace Go.Proofs.Ytfgojdnakidifaa
open Go.Am

theorem mod3 (x : Int) : IntKind.u32.wrap (x % 3) = ((x % 3).toNat : Nat) := by rw [in_u32 (by omega) (by omega)]; omega
theorem make (k : Int) (f : Nat → Int) (n : Nat) : ASpec Try.prog 16 [.int .i64 k, .ro n (famL (i64F f) n)] (num (mkN k f n)) := by
  refine ASpec.start 1000 Try.func16 (fn := Try.f16) rfl (by decide) mixed (by kernel_rfl) (by simp) ?_
  simp (disch := omega) [ini, upd_eq, tyNum]
  obtain ⟨M, hM⟩ : ∃ M, M = min 8 n := ⟨_, rfl⟩
  refine goT_count (fun i => [(0, .int .i64 k), (1, .ro n (famL (i64F f) n)), (4, .ptr 0 0), (5, .ptr 1 0), (6, .int .i64 (i : Nat))]) (fun i => [(0, ⟨numL 0, true⟩), (1, ⟨mkL f i, true⟩)]) 2 M ?_ ?_ ?_
  · intro i hi IH
    refine goT_round mixed 100 ?_
    have hg : (famL (i64F f) n)[i]? = some (.int .i64 (f i)) := famL_get _ _ _ (by omega)
    have hne : ¬ famL (i64F f) n = [] := fun h => by have := congrArg List.length h; simp at this; omega
    have h7 := within (f i) 7 (by decide) (by decide)
    have h5 := within (f i) 5 (by decide) (by decide)
    have h57 := within (IntKind.i64.wrap ((f i).tdiv 7)) 3 (by decide) (by decide)
    have h55 := within (IntKind.i64.wrap ((f i).tdiv 5)) 3 (by decide) (by decide)
    obtain ⟨hx1, hx2⟩ := mkX_spec (f i)
    have hs : ∀ v : Int, v = (mkl (f i) : Nat) → (mkL f i).set i (.int .u32 v) = mkL f (i + 1) := fun v hv => mkL_set f i hv
    have h8 : i < 8 := by omega
    have hI : (i : Int) < 8 := by omega
    have hN : (i : Int) < n := by omega
    have hni : i < n := by omega
    have e7 := mod3 (IntKind.i64.wrap ((f i).tdiv 7))
    have e5 := mod3 (IntKind.i64.wrap ((f i).tdiv 5))
    simp (disch := omega) [st_eq, upd_eq, tyNum, tyU32, tyInt, tyInts, lenA, hg, hne, binA_shr, store_int, hx2, h8, hni, hI, hN]
    refine callT_of h5 rfl rfl ?_
    by_cases c5 : f i % 5 = 0
    · simp (disch := omega) [upd_eq, tyNum, tyU32, tyInt, tyInts, c5, hg, hne, h8, hni, hI, hN, binA_quoZ]
      refine callT_of h55 rfl rfl ?_
      simp (disch := omega) [upd_eq, tyNum, tyU32, tyInt, tyInts, hg, hne, h8, hni, hI, hN, store_int, e5]
      refine callT_of h7 rfl rfl ?_
      by_cases c7 : f i % 7 = 0
      · simp (disch := omega) [upd_eq, tyNum, tyU32, tyInt, tyInts, c7, hg, hne, h8, hni, hI, hN, binA_quoZ]
        refine callT_of h57 rfl rfl ?_
        simp (disch := omega) [upd_eq, tyNum, tyU32, tyInt, tyInts, hg, hne, h8, hni, hI, hN, store_int, e7, in_i64]
        refine IH _ ⟨by simp [upd_eq, refsLt, refsLts_i64F], ?_⟩
        simp [upd_eq, refsLts_mkL]
        exact mkL_set f i (by unfold mkl; rw [if_pos c7]; omega)
      · simp (disch := omega) [upd_eq, beqF c7, in_i64]
        refine IH _ ⟨by simp [upd_eq, refsLt, refsLts_i64F], ?_⟩
        simp [upd_eq, refsLts_mkL]
        refine mkL_set f i ?_
        unfold mkl
        rw [if_neg c7, if_pos c5, in_u32 (by omega) (by omega)]
        omega
    · simp (disch := omega) [upd_eq, tyNum, tyU32, tyInt, tyInts, beqF c5, hg, hne, h8, hni, hI, hN]
      refine callT_of h7 rfl rfl ?_
      by_cases c7 : f i % 7 = 0
      · simp (disch := omega) [upd_eq, tyNum, tyU32, tyInt, tyInts, c7, hg, hne, h8, hni, hI, hN, binA_quoZ]
        refine callT_of h57 rfl rfl ?_
        simp (disch := omega) [upd_eq, tyNum, tyU32, tyInt, tyInts, hg, hne, h8, hni, hI, hN, store_int, e7, in_i64]
        refine IH _ ⟨by simp [upd_eq, refsLt, refsLts_i64F], ?_⟩
        simp [upd_eq, refsLts_mkL]
        exact mkL_set f i (by unfold mkl; rw [if_pos c7]; omega)
      · simp (disch := omega) [upd_eq, beqF c7, in_i64]
        refine IH _ ⟨by simp [upd_eq, refsLt, refsLts_i64F], ?_⟩
        simp [upd_eq, refsLts_mkL]
        exact mkL_set f i (by unfold mkl; rw [if_neg c7, if_neg c5])
  · refine goT_round mixed 100 ?_
    have hall := mkL_all f n M hM
    have h6 := within k 6 (by decide) (by decide)
    have hG := mkG_lt f n
    have hr : ∀ L : List AV, L = famL (lbF (mkF k f n)) 8 → segA L 0 8 = some (num (mkN k f n)) := fun L hL => by rw [hL, mkN_num]; exact segA_num
    have hp : ∀ L : List AV, L = famL (lbF (mkF k f n)) 8 → L = numL (mkN k f n) := fun L hL => by rw [hL, mkN_num]
    have hcond : ((M : Int) < 8 && decide ((M : Int) < n)) = false := by simp; omega
    have hend : ¬ ((M : Int) < 8) ∨ ¬ ((M : Int) < n) := by omega
    have hcl : ∃ b c : Bool, (decide ((M : Int) < 8)) = b ∧ (decide ((M : Int) < n)) = c ∧ (b && c) = false := ⟨_, _, rfl, rfl, by simp; omega⟩
    obtain ⟨b, c, hb, hc, hbc⟩ := hcl
    by_cases hc : (M : Int) < 8
    case' pos => have hc2 : ¬ ((M : Int) < n) := by omega
    case' pos => simp (disch := omega) [st_eq, upd_eq, tyNum, tyU32, tyInt, tyInts, lenA, hc, hc2]
    case' neg => simp (disch := omega) [st_eq, upd_eq, tyNum, tyU32, tyInt, tyInts, lenA, hc]
    all_goals
      refine callT_of h6 rfl rfl ?_
      rw [hall]
      by_cases c0 : k % 6 = 0
      · simp (disch := omega) [upd_eq, tyNum, beqT c0]
        refine goT_count (fun i => [(4, .ptr 0 0), (5, .ptr 1 0), (7, .int .i64 ((i + 1 : Nat) : Int))]) (fun i => [(0, ⟨numL 0, true⟩), (1, ⟨cutL (mkG f n) 1 i, true⟩)]) 2 7 ?_ ?_ ?_
        · intro i hi IH
          refine goT_round mixed 100 ?_
          have e1 : ((i : Int) + 1).toNat = 1 + i := by omega
          have hset := cutL_set (mkG f n) 1 i
          simp (disch := omega) [st_eq, upd_eq, tyNum, tyU32, show (i : Int) + 1 < 8 by omega, show 0 ≤ (i : Int) + 1 by omega, e1, show 1 + i < 8 by omega, store_int, hset, in_i64]
          exact IH _ ⟨by simp [upd_eq, refsLt], by simp [upd_eq, refsLts_cutL]⟩
        · refine goT_round mixed 100 ?_
          simp (disch := omega) [st_eq, upd_eq, tyNum]
          rw [cutL_end _ 1 7 rfl, hr (famL (lbF fun j => if j < 1 then mkG f n j else 0) 8) (famL_congr fun j hj => by simp only [lbF, mkF]; rw [if_pos c0])]
          simp (disch := omega) [upd_eq, tyNum, resA_L Try.results16]
        · exact ⟨by simp [upd_eq, refsLt], by simp [upd_eq, refsLts_lbF, cutL_zero]⟩
      · by_cases c1 : k % 6 = 1
        · simp (disch := omega) [upd_eq, tyNum, beqF c0, beqT c1]
          refine goT_count (fun i => [(4, .ptr 0 0), (5, .ptr 1 0), (8, .int .i64 (i : Nat))]) (fun i => [(0, ⟨numL 0, true⟩), (1, ⟨mixL (lbF fun j => 4294967295 - mkG f n j) (lbF (mkG f n)) 8 i, true⟩)]) 2 8 ?_ ?_ ?_
          · intro i hi IH
            refine goT_round mixed 100 ?_
            have hv := bnot32 (hG i)
            have hgt : (mixL (lbF fun j => 4294967295 - mkG f n j) (lbF (mkG f n)) 8 i)[i]? = some (.int .u32 (mkG f n i : Nat)) := mixL_get hi
            have hset : (mixL (lbF fun j => 4294967295 - mkG f n j) (lbF (mkG f n)) 8 i).set i (.int .u32 ((4294967295 - mkG f n i : Nat) : Int)) = _ := mixL_set rfl
            simp (disch := omega) [st_eq, upd_eq, tyNum, tyU32, show (i : Int) < 8 by omega, hi, hgt, IntKind.signed, IntKind.max, hv, store_int, hset, in_i64]
            exact IH _ ⟨by simp [upd_eq, refsLt], by simp [upd_eq]; exact refsLts_mixL (fun _ => rfl) (fun _ => rfl)⟩
          · refine goT_round mixed 100 ?_
            simp (disch := omega) [st_eq, upd_eq, tyNum]
            rw [mixL_all, hr (famL (lbF fun j => 4294967295 - mkG f n j) 8) (famL_congr fun j hj => by simp only [lbF, mkF]; rw [if_neg c0, if_pos c1])]
            simp (disch := omega) [upd_eq, tyNum, resA_L Try.results16]
          · exact ⟨by simp [upd_eq, refsLt], by simp [upd_eq, refsLts_lbF, mixL_zero]⟩
        · by_cases c2 : k % 6 = 2
          · simp (disch := omega) [upd_eq, tyNum, beqF c0, beqF c1, beqT c2]
            refine goT_count (fun i => [(4, .ptr 0 0), (5, .ptr 1 0), (9, .int .i64 ((i + 4 : Nat) : Int))]) (fun i => [(0, ⟨numL 0, true⟩), (1, ⟨cutL (mkG f n) 4 i, true⟩)]) 2 4 ?_ ?_ ?_
            · intro i hi IH
              refine goT_round mixed 100 ?_
              have e1 : ((i : Int) + 4).toNat = 4 + i := by omega
              have hset := cutL_set (mkG f n) 4 i
              simp (disch := omega) [st_eq, upd_eq, tyNum, tyU32, show (i : Int) + 4 < 8 by omega, show 0 ≤ (i : Int) + 4 by omega, e1, show 4 + i < 8 by omega, store_int, hset, in_i64]
              exact IH _ ⟨by simp [upd_eq, refsLt]; omega, by simp [upd_eq, refsLts_cutL]⟩
            · refine goT_round mixed 100 ?_
              simp (disch := omega) [st_eq, upd_eq, tyNum]
              rw [cutL_end _ 4 4 rfl, hr (famL (lbF fun j => if j < 4 then mkG f n j else 0) 8) (famL_congr fun j hj => by simp only [lbF, mkF]; rw [if_neg c0, if_neg c1, if_pos c2])]
              simp (disch := omega) [upd_eq, tyNum, resA_L Try.results16]
            · exact ⟨by simp [upd_eq, refsLt], by simp [upd_eq, refsLts_lbF, cutL_zero]⟩
          · simp (disch := omega) [upd_eq, tyNum, beqF c0, beqF c1, beqF c2]
            rw [hr (famL (lbF (mkG f n)) 8) (famL_congr fun j hj => by simp only [lbF, mkF]; rw [if_neg c0, if_neg c1, if_neg c2])]
            simp (disch := omega) [upd_eq, tyNum, resA_L Try.results16]
  · exact ⟨by simp [upd_eq, refsLt, refsLts_i64F], by simp [upd_eq, refsLts_mkL, mkL_zero]⟩
end Go.Proofs.Ytfgojdnakidifaa
