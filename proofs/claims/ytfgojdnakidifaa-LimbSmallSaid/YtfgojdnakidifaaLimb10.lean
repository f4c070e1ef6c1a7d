/-
  Bytes as numbers: limb and the document.
-/
import Derived.Test.YtfgojdnakidifaaLimb9
set_option linter.unusedSimpArgs false
set_option linter.unusedVariables false
namespace Go.Proofs.Ytfgojdnakidifaa
open Go.Am

theorem or_add {x r k : Nat} (hx : x % 2 ^ k = 0) (hr : r < 2 ^ k) : x ||| r = x + r := by
  have : x = 2 ^ k * (x / 2 ^ k) := by have := Nat.div_add_mod x (2 ^ k); omega
  rw [this, Nat.two_pow_add_eq_or_of_lt hr]
/-- A byte put under what has nothing there. -/
theorem put_byte {P b q j : Nat} (hj : j < 4) (hb : b < 256) (hP : P % 2 ^ (32 * q + 8 * (j + 1)) = 0) :
    limb P q ||| b * 2 ^ (8 * j) = limb (P + b * 2 ^ (32 * q + 8 * j)) q ∧ ∀ i, i ≠ q → limb (P + b * 2 ^ (32 * q + 8 * j)) i = limb P i := by
  have hr : b * 2 ^ (8 * j) < 2 ^ (8 * (j + 1)) := by
    rw [show 8 * (j + 1) = 8 + 8 * j by omega, Nat.pow_add]
    exact Nat.mul_lt_mul_of_pos_right (by simpa using hb) (Nat.two_pow_pos _)
  have hsum : P + b * 2 ^ (32 * q + 8 * j) = P + 2 ^ (32 * q) * (b * 2 ^ (8 * j)) := by
    rw [Nat.pow_add, Nat.mul_left_comm]
  have hp2 := Nat.two_pow_pos (32 * q)
  have hq0 : P / 2 ^ (32 * q) % 2 ^ (8 * (j + 1)) = 0 := by
    rw [← Nat.mod_mul_right_div_self, ← Nat.pow_add, hP, Nat.zero_div]
  have hdiv : (P + 2 ^ (32 * q) * (b * 2 ^ (8 * j))) / 2 ^ (32 * q) = P / 2 ^ (32 * q) + b * 2 ^ (8 * j) := Nat.add_mul_div_left _ _ hp2
  generalize hr' : b * 2 ^ (8 * j) = r at *
  rw [hsum]
  have h32 : (2 : Nat) ^ 32 = 2 ^ (8 * (j + 1)) * 2 ^ (24 - 8 * j) := by rw [← Nat.pow_add]; congr 1; omega
  have hT := Nat.two_pow_pos (8 * (j + 1))
  have hhi : (P / 2 ^ (32 * q) + r) / 2 ^ 32 = P / 2 ^ (32 * q) / 2 ^ 32 := by
    rw [h32, ← Nat.div_div_eq_div_mul, ← Nat.div_div_eq_div_mul]
    congr 1
    have h1 := Nat.div_add_mod (P / 2 ^ (32 * q)) (2 ^ (8 * (j + 1)))
    rw [hq0, Nat.add_zero] at h1
    rw [← h1, Nat.mul_add_div hT, Nat.div_eq_of_lt hr, Nat.mul_div_cancel_left _ hT]
    rfl
  refine ⟨?_, fun i hi => ?_⟩
  · rw [limb_def, limb_def, hdiv]
    have hm : P / 2 ^ (32 * q) % 2 ^ 32 % 2 ^ (8 * (j + 1)) = 0 := by
      rw [h32, Nat.mod_mul_right_mod, hq0]
    rw [or_add hm hr]
    have h1 := Nat.div_add_mod (P / 2 ^ (32 * q)) (2 ^ 32)
    have h2 := Nat.div_add_mod (P / 2 ^ (32 * q) + r) (2 ^ 32)
    rw [hhi] at h2
    omega
  · rcases Nat.lt_or_gt_of_ne hi with h | h
    · exact limb_below h
    · simp only [limb_def]
      congr 1
      have e : 2 ^ (32 * i) = 2 ^ (32 * q) * (2 ^ 32 * 2 ^ (32 * (i - q - 1))) := by
        rw [← Nat.pow_add, ← Nat.pow_add]; congr 1; omega
      rw [e, ← Nat.div_div_eq_div_mul, hdiv, ← Nat.div_div_eq_div_mul, hhi, ← Nat.div_div_eq_div_mul, ← Nat.div_div_eq_div_mul]
theorem put_set {P b q j : Nat} {v : Int} (hj : j < 4) (hb : b < 256) (hP : P % 2 ^ (32 * q + 8 * (j + 1)) = 0) (hv : v = ((limb P q ||| b * 2 ^ (8 * j) : Nat) : Int)) :
    (numL P).set q (.int .u32 v) = numL (P + b * 2 ^ (32 * q + 8 * j)) := by
  obtain ⟨h1, h2⟩ := put_byte hj hb hP
  subst hv
  unfold numL
  rw [famL_set]
  refine famL_congr fun i _ => ?_
  unfold upd
  by_cases h : i = q
  · subst h; simp only [if_true, limbA, h1]
  · simp only [h, if_false, limbA, h2 i h]
/-- what stands when i bytes of n are read -/
def rdV (f : Nat → Nat) (n i : Nat) : Nat := beV f i * 2 ^ (8 * (n - i))
theorem rdV_step {f : Nat → Nat} {n i : Nat} (h : i < n) : rdV f n (i + 1) = rdV f n i + f i * 2 ^ (8 * (n - 1 - i)) := by
  unfold rdV
  rw [beV, show 8 * (n - i) = 8 + 8 * (n - 1 - i) by omega, Nat.pow_add, show n - (i + 1) = n - 1 - i by omega, Nat.add_mul, ← Nat.mul_assoc, show (2 : Nat) ^ 8 = 256 from rfl, Nat.mul_comm 256]
theorem rdV_all (f : Nat → Nat) (n : Nat) : rdV f n n = beV f n := by simp [rdV]
theorem rdV_mod {f : Nat → Nat} {n i : Nat} (h : i < n) : rdV f n i % 2 ^ (8 * (n - 1 - i) + 8) = 0 := by
  unfold rdV
  rw [show 8 * (n - i) = 8 * (n - 1 - i) + 8 by omega]
  exact Nat.mul_mod_left _ _

theorem read (f : Nat → Nat) (n : Nat) (hf : ∀ i, i < n → f i < 256) : ASpec Try.prog 18 [.ro n (famL (u8F f) n)] (.tup [num (if n ≤ 32 then beV f n else 0), .bool (decide (n ≤ 32))]) := by
  refine ASpec.start 1000 Try.func18 (fn := Try.f18) rfl (by decide) mixed (by kernel_rfl) (by simp) ?_
  by_cases hn : n ≤ 32
  · simp (disch := omega) [ini, upd_eq, tyNum, tyBytes, lenA, show ¬ (32 : Int) < n by omega]
    refine goT_count (fun i => [(0, .ro n (famL (u8F f) n)), (2, .ptr 0 0), (4, .ptr 1 0), (12, .ro n (famL (u8F f) n)), (13, .int .i64 (n : Nat)), (14, .int .i64 (i : Nat))]) (fun i => [(0, ⟨numL 0, true⟩), (1, ⟨numL (rdV f n i), true⟩)]) 2 n ?_ ?_ ?_
    · intro i hi IH
      refine goT_round mixed 100 ?_
      have hfi := hf i hi
      have hg : (famL (u8F f) n)[i]? = some (u8F f i) := famL_get _ _ _ hi
      have hat : ((n : Int) - 1 - i) = ((n - 1 - i : Nat) : Int) := by omega
      have hne : ¬ famL (u8F f) n = [] := fun h => by have := congrArg List.length h; simp at this; omega
      have hg' : (famL (u8F f) n)[i]? = some (.int .u8 (f i : Nat)) := hg
      obtain ⟨t, ht⟩ : ∃ t, t = n - 1 - i := ⟨_, rfl⟩
      have hst := rdV_step (f := f) hi
      have hmd := rdV_mod (f := f) hi
      rw [← ht] at hat hst hmd
      have htl : t < 32 := by omega
      have hq : t / 4 < 8 := by omega
      have hput := put_set (P := rdV f n i) (b := f i) (q := t / 4) (j := t % 4) (Nat.mod_lt _ (by decide)) hfi (by rw [show 32 * (t / 4) + 8 * (t % 4 + 1) = 8 * t + 8 by omega]; exact hmd) rfl
      rw [show 32 * (t / 4) + 8 * (t % 4) = 8 * t by omega, ← hst] at hput
      have hl := limb_lt (rdV f n i) (t / 4)
      have hsh : f i * 2 ^ (8 * (t % 4)) < 4294967296 := by
        have h1 : f i * 2 ^ (8 * (t % 4)) < 2 ^ 8 * 2 ^ (8 * (t % 4)) := Nat.mul_lt_mul_of_pos_right (by simpa using hfi) (Nat.two_pow_pos _)
        rw [← Nat.pow_add] at h1
        exact Nat.lt_of_lt_of_le h1 (Nat.pow_le_pow_right (show 0 < 2 by decide) (show 8 + 8 * (t % 4) ≤ 32 by omega))
      have hbor := bor32 hl hsh
      have e2 : ((t : Int) / 4).toNat = t / 4 := by omega
      have e3 : (8 * ((t : Int) % 4)).toNat = 8 * (t % 4) := by omega
      have e4 : min (8 * (t % 4)) 32 = 8 * (t % 4) := by omega
      have e5 : (f i : Int) * 2 ^ (8 * (t % 4)) = ((f i * 2 ^ (8 * (t % 4)) : Nat) : Int) := by simp
      have hset : (numL (rdV f n i)).set (t / 4) (.int .u32 (bitsA .or .u32 (limb (rdV f n i) (t / 4)) ((f i : Int) * 2 ^ (8 * (t % 4))))) = numL (rdV f n (i + 1)) := by rw [e5, hbor]; exact hput
      have hw : IntKind.u32.wrap ((f i : Int) * 2 ^ (8 * (t % 4))) = (f i : Int) * 2 ^ (8 * (t % 4)) := by rw [e5]; exact in_u32 (by omega) (by omega)
      simp (disch := omega) [st_eq, upd_eq, tyNum, tyBytes, tyU8, tyU32, lenA, show (i : Int) < n by omega, hg', in_i64, hne, hat, binA_quo, binA_rem, binA_shl, in_u32, e2, e3, e4, numL_get, limbA_def, hq, show (t : Int) / 4 < 8 by omega, show 0 ≤ (t : Int) / 4 by omega, hw, store_int, hset]
      exact IH _ ⟨by simp [upd_eq, refsLt], by simp [upd_eq]⟩
    · refine goT_round mixed 100 ?_
      simp (disch := omega) [st_eq, upd_eq, tyNum, rdV_all, hn, resA_L Try.results18]
    · exact ⟨by simp [upd_eq, refsLt, refsLts_u8F], by simp [upd_eq, rdV, beV]⟩
  · simp (disch := omega) [ini, upd_eq, tyNum, tyBytes, lenA, show (32 : Int) < n by omega, hn, resA_L Try.results18]

theorem rread (f : Nat → Nat) (n : Nat) (hf : ∀ i, i < n → f i < 256) : ASpec Try.prog 19 [.ro n (famL (u8F f) n)] (.tup [num (if n ≤ 32 then beV f n else 0), .bool (decide (n ≤ 32))]) := by
  refine ASpec.start 1000 Try.func19 (fn := Try.f19) rfl (by decide) mixed (by kernel_rfl) (by simp) ?_
  by_cases hn : n ≤ 32
  · simp (disch := omega) [ini, upd_eq, tyNum, tyBytes, lenA, show ¬ (32 : Int) < n by omega]
    refine goT_count (fun i => [(0, .ro n (famL (u8F f) n)), (2, .ptr 0 0), (4, .ptr 1 0), (5, .int .i64 (i : Nat))]) (fun i => [(0, ⟨numL 0, true⟩), (1, ⟨numL (rdV f n i), true⟩)]) 2 n ?_ ?_ ?_
    · intro i hi IH
      refine goT_round mixed 100 ?_
      have hfi := hf i hi
      have hg : (famL (u8F f) n)[i]? = some (u8F f i) := famL_get _ _ _ hi
      have hat : ((n : Int) - 1 - i) = ((n - 1 - i : Nat) : Int) := by omega
      have hne : ¬ famL (u8F f) n = [] := fun h => by have := congrArg List.length h; simp at this; omega
      have hg' : (famL (u8F f) n)[i]? = some (.int .u8 (f i : Nat)) := hg
      obtain ⟨t, ht⟩ : ∃ t, t = n - 1 - i := ⟨_, rfl⟩
      have hst := rdV_step (f := f) hi
      have hmd := rdV_mod (f := f) hi
      rw [← ht] at hat hst hmd
      have htl : t < 32 := by omega
      have hq : t / 4 < 8 := by omega
      have hput := put_set (P := rdV f n i) (b := f i) (q := t / 4) (j := t % 4) (Nat.mod_lt _ (by decide)) hfi (by rw [show 32 * (t / 4) + 8 * (t % 4 + 1) = 8 * t + 8 by omega]; exact hmd) rfl
      rw [show 32 * (t / 4) + 8 * (t % 4) = 8 * t by omega, ← hst] at hput
      have hl := limb_lt (rdV f n i) (t / 4)
      have hsh : f i * 2 ^ (8 * (t % 4)) < 4294967296 := by
        have h1 : f i * 2 ^ (8 * (t % 4)) < 2 ^ 8 * 2 ^ (8 * (t % 4)) := Nat.mul_lt_mul_of_pos_right (by simpa using hfi) (Nat.two_pow_pos _)
        rw [← Nat.pow_add] at h1
        exact Nat.lt_of_lt_of_le h1 (Nat.pow_le_pow_right (show 0 < 2 by decide) (show 8 + 8 * (t % 4) ≤ 32 by omega))
      have hbor := bor32 hl hsh
      have e2 : ((t : Int) / 4).toNat = t / 4 := by omega
      have e3 : (8 * ((t : Int) % 4)).toNat = 8 * (t % 4) := by omega
      have e4 : min (8 * (t % 4)) 32 = 8 * (t % 4) := by omega
      have e5 : (f i : Int) * 2 ^ (8 * (t % 4)) = ((f i * 2 ^ (8 * (t % 4)) : Nat) : Int) := by simp
      have hset : (numL (rdV f n i)).set (t / 4) (.int .u32 (bitsA .or .u32 (limb (rdV f n i) (t / 4)) ((f i : Int) * 2 ^ (8 * (t % 4))))) = numL (rdV f n (i + 1)) := by rw [e5, hbor]; exact hput
      have hw : IntKind.u32.wrap ((f i : Int) * 2 ^ (8 * (t % 4))) = (f i : Int) * 2 ^ (8 * (t % 4)) := by rw [e5]; exact in_u32 (by omega) (by omega)
      simp (disch := omega) [st_eq, upd_eq, tyNum, tyBytes, tyU8, tyU32, tyInt, tyUint, in_u64, lenA, show (i : Int) < n by omega, hg', in_i64, hne, hat, binA_quo, binA_rem, binA_shl, in_u32, e2, e3, e4, numL_get, limbA_def, hq, show (t : Int) / 4 < 8 by omega, show 0 ≤ (t : Int) / 4 by omega, hw, store_int, hset]
      exact IH _ ⟨by simp [upd_eq, refsLt], by simp [upd_eq]⟩
    · refine goT_round mixed 100 ?_
      simp (disch := omega) [st_eq, upd_eq, tyNum, tyBytes, lenA, rdV_all, hn, resA_L Try.results19]
    · exact ⟨by simp [upd_eq, refsLt, refsLts_u8F], by simp [upd_eq, rdV, beV]⟩
  · simp (disch := omega) [ini, upd_eq, tyNum, tyBytes, lenA, show (32 : Int) < n by omega, hn, resA_L Try.results19]
end Go.Proofs.Ytfgojdnakidifaa
