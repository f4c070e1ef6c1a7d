/-
  Statements of limb: bytes of small numbers, noughts ahead.
-/
import Derived.Test.YtfgojdnakidifaaLaw8
set_option linter.unusedSimpArgs false
set_option linter.unusedVariables false
namespace Go.Proofs.Ytfgojdnakidifaa
open Go.Am

theorem beV_le {f : Nat → Nat} {i n : Nat} (h : i ≤ n) : beV f i ≤ beV f n := by
  induction n with
  | zero => obtain rfl : i = 0 := by omega
            exact Nat.le_refl _
  | succ n ih =>
    rcases Nat.lt_or_ge i (n + 1) with h1 | h1
    · have := ih (by omega)
      rw [beV]; omega
    · obtain rfl : i = n + 1 := by omega
      exact Nat.le_refl _
theorem byteN_big {N j : Nat} (h : N < 2 ^ 64) (hj : 8 ≤ j) : byteN N j = 0 := by
  rw [byteN_def]
  have h1 : 2 ^ 64 ≤ 2 ^ (8 * j) := Nat.pow_le_pow_right (by decide) (by omega)
  rw [Nat.div_eq_of_lt (by omega)]
theorem zeros_u8 (k : Nat) : zerosA [AV.int .u8 0] k = famL (u8F fun _ => 0) k := by
  induction k with
  | zero => rfl
  | succ k ih =>
    rw [famL_succ, ← ih]
    simp only [zerosA, List.replicate_succ', List.flatten_append]
    rfl

set_option maxHeartbeats 2000000 in
set_option maxRecDepth 16000 in
theorem law_LimbBytes (a ahead : Int) (g : Nat → Nat) (hg : ∀ i, g i < 256) (m : Nat) :
    ASpec Try.prog 4 [.int .i64 a, .int .i64 ahead, .ro m (famL (u8F g) m)] (.bool true) := by
  refine ASpec.start 1000 Try.func4 (fn := Try.f4) rfl (by decide) mixed (by kernel_rfl) (by simp) ?_
  have h0W := W_big
  simp (disch := omega) [ini, upd_eq, tyNum]
  refine callT_of known rfl rfl ?_
  by_cases hm : 20 < m
  · simp (disch := omega) [upd_eq, tyNum, tyBytes, lenA, show (20 : Int) < m by omega, resA_L Try.results4]
  simp (disch := omega) [upd_eq, tyNum, tyBytes, lenA, show ¬ (20 : Int) < m by omega]
  have s1 := within a 1152921504606846976 (by decide) (by decide)
  have hz1 := Int.emod_nonneg a (show (1152921504606846976 : Int) ≠ 0 by decide)
  have hz2 := Int.emod_lt_of_pos a (show (0 : Int) < 1152921504606846976 by decide)
  obtain ⟨K, hK⟩ : ∃ K : Nat, a % 1152921504606846976 = K := ⟨(a % 1152921504606846976).toNat, by omega⟩
  rw [hK] at s1
  refine callT_of s1 rfl rfl ?_
  simp (disch := omega) [upd_eq, tyNum]
  refine callT_of (fromN K (by omega)) rfl rfl ?_
  simp (disch := omega) [upd_eq, tyNum]
  refine callT_of (bytes K) rfl rfl ?_
  simp (disch := omega) [upd_eq, tyNum, tyBytes, lenA]
  have hKb : beV (fun j => byteN K (31 - j)) 32 = K := beV_num (by omega)
  refine goT_count (fun i => [(1, .int .i64 ahead), (2, .ro m (famL (u8F g) m)), (7, .int .i64 (K : Nat)), (8, .ro 32 (bytesL K)), (9, .int .i64 (beV (fun j => byteN K (31 - j)) i : Nat)), (10, .int .i64 (i : Nat))]) (fun _ => []) 0 32 ?_ ?_ ?_
  · intro i hi IH
    refine goT_round mixed 100 ?_
    have hgt : (bytesL K)[i]? = some (.int .u8 (byteN K (31 - i) : Nat)) := famL_get _ _ _ hi
    have hne : ¬ bytesL K = [] := fun h => by rw [h] at hgt; simp at hgt
    have hb := byteN_lt K (31 - i)
    have hst : beV (fun j => byteN K (31 - j)) (i + 1) = 256 * beV (fun j => byteN K (31 - j)) i + byteN K (31 - i) := rfl
    have hle := beV_le (f := fun j => byteN K (31 - j)) (show i + 1 ≤ 32 by omega)
    rw [hKb] at hle
    rw [hst] at hle IH
    generalize beV (fun j => byteN K (31 - j)) i = V at *
    have e3 : bitsA .or .i64 ((V : Int) * 256) (byteN K (31 - i)) = ((256 * V + byteN K (31 - i) : Nat) : Int) := by
      have := bor_i64 (a := 256 * V) (b := byteN K (31 - i)) (by omega) (by omega)
      rw [or_add (k := 8) (by omega) (by omega)] at this
      rw [← this]
      congr 1
      omega
    by_cases h24 : i < 24
    · have hz : byteN K (31 - i) = 0 := byteN_big (by omega) (by omega)
      rw [hz] at hgt e3 IH
      have e4 : bitsA .or .i64 ((V : Int) * 256) 0 = ((256 * V + 0 : Nat) : Int) := e3
      simp (disch := omega) [st_eq, upd_eq, tyBytes, tyU8, tyInt, show (i : Int) < 32 by omega, show (i : Int) < 24 by omega, hgt, hne, hi, binA_shl, in_i64, e4]
      refine IH _ ⟨by simp [upd_eq, refsLt, refsLts_u8F, bytesL_u8], by simp [upd_eq]⟩
    · simp (disch := omega) [st_eq, upd_eq, tyBytes, tyU8, tyInt, show (i : Int) < 32 by omega, show ¬ (i : Int) < 24 by omega, hgt, hne, hi, binA_shl, in_i64, e3]
      refine IH _ ⟨by simp [upd_eq, refsLt, refsLts_u8F, bytesL_u8], by simp [upd_eq]⟩
  · refine goT_round mixed 200 ?_
    rw [hKb]
    simp (disch := omega) [st_eq, upd_eq]
    have r0 := read g m (fun i _ => hg i)
    rw [if_pos (by omega), decide_eq_true (show m ≤ 32 by omega)] at r0
    refine callT_of r0 rfl rfl ?_
    have hRW : beV g m < W := by
      have h1 := beV_lt (f := g) (n := m) (fun i _ => hg i)
      exact Nat.lt_of_lt_of_le h1 (Nat.pow_le_pow_right (show 0 < 256 by decide) (show m ≤ 32 by omega))
    simp (disch := omega) [upd_eq, tyNum]
    have s2 := within ahead 12 (by decide) (by decide)
    have hy1 := Int.emod_nonneg ahead (show (12 : Int) ≠ 0 by decide)
    have hy2 := Int.emod_lt_of_pos ahead (show (0 : Int) < 12 by decide)
    obtain ⟨k, hk⟩ : ∃ k : Nat, ahead % 12 = k := ⟨(ahead % 12).toNat, by omega⟩
    rw [hk] at s2
    refine callT_of s2 rfl rfl ?_
    simp (disch := omega) [upd_eq, tyNum, tyBytes, makeA, tyU8, HP.add, zeros_u8, show (k : Int) ≤ 70368744177664 by omega, show (k : Int) ≤ 4611686018427387904 by omega]
    rw [append_own (f := true) (cs := famL (u8F fun _ => 0) k) (m := m) (new := famL (u8F g) m) (by simp [upd_eq]) (by simp [srcA]) zOkU8 (by simp) (leaf_u8F _ _) (by omega) (by omega)]
    have hcat : (famL (u8F fun _ => 0) k).take (k * 1) ++ famL (u8F g) m = famL (u8F fun i => if i < k then 0 else g (i - k)) (k + m) := by
      rw [List.take_of_length_le (by simp)]
      apply List.ext_getElem?
      intro i
      by_cases h1 : i < k
      · rw [List.getElem?_append_left (by simpa using h1), famL_get _ _ _ h1, famL_get _ _ _ (by omega)]
        simp [u8F, h1]
      · rw [List.getElem?_append_right (by simp; omega), famL_length]
        by_cases h2 : i < k + m
        · rw [famL_get _ _ _ (by omega), famL_get _ _ _ h2]
          simp [u8F, h1]
        · rw [List.getElem?_eq_none (by simp; omega), List.getElem?_eq_none (by simp; omega)]
    rw [hcat]
    have r2 := read (fun i => if i < k then 0 else g (i - k)) (k + m) (fun i _ => by split; omega; exact hg _)
    rw [if_pos (by omega), decide_eq_true (show k + m ≤ 32 by omega), beV_ahead] at r2
    simp (disch := omega) [upd_eq, tyNum, tyBytes]
    refine callT_view (by rw [List.map_cons, List.map_nil, view_u8 (f := fun i => if i < k then 0 else g (i - k)) (m := k + m) (fx := false) (by simp [upd_eq]) (by omega)]; simp only [Nat.zero_add]; exact r2) (by simp [flat, flats]) ?_
    simp (disch := omega) [upd_eq, tyNum]
    refine callT_of read_nils rfl rfl ?_
    simp (disch := omega) [upd_eq, tyNum, eql_num, build_num, resA_L Try.results4]
  · exact ⟨by simp [upd_eq, refsLt, refsLts_u8F, bytesL_u8, beV], by simp [upd_eq]⟩
end Go.Proofs.Ytfgojdnakidifaa
