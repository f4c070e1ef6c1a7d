/-
  What is left of a product, divided: limb and the document.
-/
import Derived.Test.YtfgojdnakidifaaLimb5
set_option linter.unusedSimpArgs false
set_option linter.unusedVariables false
namespace Go.Proofs.Ytfgojdnakidifaa
open Go.Am

def restN (X m : Nat) : Nat := if m = 0 then 0 else X % m
theorem rest_step {X m i v : Nat} (hm : 0 < m) (hv : v = 2 * (X / 2 ^ (i + 1) % m) + bitN X i) : v < 2 * m ∧ X / 2 ^ i % m = if v < m then v else v - m := by
  have h1 := Nat.mod_lt (X / 2 ^ (i + 1)) hm
  have hb := bitN_le X i
  have h2 : X / 2 ^ i = 2 * (X / 2 ^ (i + 1)) + bitN X i := by
    unfold bitN
    rw [Nat.pow_succ, ← Nat.div_div_eq_div_mul]
    omega
  have h3 := Nat.div_add_mod (X / 2 ^ (i + 1)) m
  have h4 : X / 2 ^ i % m = v % m := by
    rw [h2]
    generalize X / 2 ^ (i + 1) = q at *
    have : 2 * q + bitN X i = v + m * (2 * (q / m)) := by
      rw [hv, Nat.mul_left_comm]
      omega
    rw [this, Nat.add_mul_mod_self_left]
  have h5 : v < 2 * m := by omega
  refine ⟨h5, ?_⟩
  rw [h4]
  split
  · rename_i h; exact Nat.mod_eq_of_lt h
  · rename_i h
    rw [Nat.mod_eq_sub_mod (by omega), Nat.mod_eq_of_lt (by omega)]
theorem bit_lo {hi lo i : Nat} (h : i < 256) : bitN lo i = bitN (hi * W + lo) i := by
  unfold bitN
  have e : hi * W = 2 ^ i * (2 * (hi * 2 ^ (255 - i))) := by
    have : W = 2 ^ i * (2 * 2 ^ (255 - i)) := by
      unfold W
      rw [← Nat.pow_succ', ← Nat.pow_add]
      congr 1; omega
    rw [this]
    simp only [Nat.mul_left_comm, Nat.mul_comm, Nat.mul_assoc]
  rw [e, Nat.mul_add_div (Nat.two_pow_pos _)]
  omega
theorem bit_hi {hi lo i : Nat} (hl : lo < W) (h : 256 ≤ i) : bitN hi (i - 256) = bitN (hi * W + lo) i := by
  unfold bitN
  have : 2 ^ i = W * 2 ^ (i - 256) := by
    unfold W
    rw [← Nat.pow_add, show 256 + (i - 256) = i by omega]
  rw [this, ← Nat.div_div_eq_div_mul, Nat.mul_comm hi W, Nat.mul_add_div W_pos, Nat.div_eq_of_lt hl, Nat.add_zero]
def dv (X i : Nat) : Nat := X / 2 ^ i
@[simp] theorem dv_zero (X : Nat) : dv X 0 = X := by simp [dv]
theorem rest_stepD {X m i v : Nat} (hm : 0 < m) (hv : v = 2 * (dv X (i + 1) % m) + bitN X i) : v < 2 * m ∧ dv X i % m = if v < m then v else v - m := rest_step hm hv
theorem pow_two_sum (a b k : Nat) (h : k = a + b) : 2 ^ k = 2 ^ a * 2 ^ b := by subst h; exact Nat.pow_add ..
theorem rest_top0 {X k : Nat} (hk : k = 256 + 256) (hX : X < W * W) : dv X k = 0 := by
  unfold dv
  refine Nat.div_eq_of_lt ?_
  rw [pow_two_sum 256 256 k hk]
  exact hX
theorem rest_top {hi lo : Nat} (hl : lo < W) (hh : hi < W) : dv (hi * W + lo) 512 = 0 := by
  refine rest_top0 rfl ?_
  have h1 : (hi + 1) * W ≤ W * W := Nat.mul_le_mul_right _ hh
  rw [Nat.add_mul, Nat.one_mul] at h1
  omega

/-- What is done with 'double', 'over': as limb and the document do it. -/
theorem rest_sub {v m : Nat} (hm : m < W) (h5 : v < 2 * m) (hge : ¬ v < m) : (v % W + W - m) % W = v - m := by
  have hW := W_pos
  rcases Nat.lt_or_ge v W with h | h
  · rw [Nat.mod_eq_of_lt h, show v + W - m = v - m + W by omega, Nat.add_mod_right, Nat.mod_eq_of_lt (by omega)]
  · rw [Nat.mod_eq_sub_mod h, Nat.mod_eq_of_lt (show v - W < W by omega), Nat.mod_eq_of_lt (by omega)]
    omega
theorem over_eq {r b : Nat} (hb : b < 2) : 2 * r / W = (2 * r + b) / W := by
  have : W = 2 * 2 ^ 255 := by unfold W; rw [← Nat.pow_succ']
  rw [this, ← Nat.div_div_eq_div_mul, ← Nat.div_div_eq_div_mul, show 2 * r / 2 = (2 * r + b) / 2 by omega]

theorem rrest (lo hi m : Nat) (hl : lo < W) (hh : hi < W) (hm : m < W) : ASpec Try.prog 31 [num lo, num hi, num m] (.tup [num (restN (hi * W + lo) m), .bool (decide (m ≠ 0))]) := by
  refine ASpec.start 1000 Try.func31 (fn := Try.f31) rfl (by decide) mixed (by kernel_rfl) (by simp) ?_
  have h0W : 0 < W := W_pos
  by_cases hm0 : m = 0
  · subst hm0
    simp (disch := omega) [ini, upd_eq, tyNum, eql_num, restN, resA_L Try.results31]
  simp (disch := omega) [ini, upd_eq, tyNum, eql_num, hm0]
  generalize hX : hi * W + lo = X
  refine goT_down (X := Nat) (fun i => i) (fun i => [(3, .ptr 0 0), (4, .ptr 1 0), (5, .ptr 2 0), (6, .ptr 3 0), (8, .ptr 4 0), (9, .int .i64 ((i : Int) - 1))])
    (fun i => [(0, ⟨numL lo, true⟩), (1, ⟨numL hi, true⟩), (2, ⟨numL m, true⟩), (3, ⟨numL 0, true⟩), (4, ⟨numL (dv X i % m), true⟩)]) 5
    (fun i => i ≤ 512) ?_ 512 (Nat.le_refl _) ⟨by simp [upd_eq, refsLt], by have := rest_top hl hh; rw [hX] at this; simp [upd_eq, this]⟩
  intro i hi' IH
  refine goT_round mixed 100 ?_
  cases i with
  | zero =>
    simp (disch := omega) [st_eq, upd_eq, tyNum, restN, hm0, resA_L Try.results31]
  | succ i =>
    have hb := bitN_le X i
    obtain ⟨hv2, hstep⟩ := rest_stepD (X := X) (m := m) (i := i) (by omega) rfl
    have hr := Nat.mod_lt (dv X (i + 1)) (show 0 < m by omega)
    generalize hR : dv X (i + 1) % m = R at *
    have hov : 2 * R / W = (2 * R + bitN X i) / W := over_eq hb
    generalize hV : 2 * R + bitN X i = v at *
    have ei : ((i : Int) - 256).toNat = i - 256 := by omega
    have eb : ∀ k, k < W → k % W = k := fun k h => Nat.mod_eq_of_lt h
    by_cases h256 : 256 ≤ i
    case' pos =>
      have e : ((i : Int) - 256) = ((i - 256 : Nat) : Int) := by omega
      simp (disch := omega) [st_eq, upd_eq, tyU32, tyNum, show (256 : Int) ≤ i by omega, in_i64, e]
      refine callT_of (rbit hi (i - 256) (by omega)) rfl rfl ?_
      rw [bit_hi hl h256, hX]
    case' neg =>
      simp (disch := omega) [st_eq, upd_eq, tyU32, tyNum, show ¬ (256 : Int) ≤ i by omega, in_i64]
      refine callT_of (rbit lo i (by omega)) rfl rfl ?_
      rw [bit_lo (hi := hi) (show i < 256 by omega), hX]
    all_goals
      simp (disch := omega) [upd_eq, tyU32, tyNum]
      refine callT_of (twice R (bitN X i) (by omega) hb) rfl rfl ?_
      rw [hov, hV]
      by_cases hlt : v < m
      · have h1 : v / W = 0 := Nat.div_eq_of_lt (by omega)
        have h2 := eb v (by omega)
        rw [if_pos hlt] at hstep
        simp (disch := omega) [upd_eq, tyU32, tyNum, h1, h2]
        refine callT_of (rcmp v m (by omega) hm) rfl rfl ?_
        simp (disch := omega) [upd_eq, tyU32, tyNum, cmpZ, hlt, in_i64]
        exact IH i _ (by omega) (by omega) ⟨by simp [upd_eq, refsLt], by simp [upd_eq, hstep]⟩
      · have h2 := rest_sub hm hv2 hlt
        rw [if_neg hlt] at hstep
        have hvW : v % W < W := Nat.mod_lt _ W_pos
        have h7 := rsub (v % W) m hvW hm
        rw [h2] at h7
        have h6 : v / W ≤ 1 := by have : v < 2 * W := by omega
                                  have := Nat.div_lt_of_lt_mul (by omega : v < W * 2); omega
        rcases Nat.lt_or_ge v W with hvl | hvl
        · have h1 : v / W = 0 := Nat.div_eq_of_lt hvl
          have h3 : cmpZ v m ≥ 0 := by unfold cmpZ; rw [if_neg hlt]; split <;> omega
          rw [Nat.mod_eq_of_lt hvl] at h7
          simp (disch := omega) [upd_eq, tyU32, tyNum, h1, Nat.mod_eq_of_lt hvl]
          refine callT_of (rcmp v m hvl hm) rfl rfl ?_
          simp (disch := omega) [upd_eq, tyU32, tyNum, h3, in_i64]
          refine callT_of h7 rfl rfl ?_
          simp (disch := omega) [upd_eq, tyU32, tyNum, in_i64]
          exact IH i _ (by omega) (by omega) ⟨by simp [upd_eq, refsLt], by simp [upd_eq, hstep]⟩
        · have h1 : v / W = 1 := by have := Nat.div_pos hvl W_pos; omega
          simp (disch := omega) [upd_eq, tyU32, tyNum, h1]
          refine callT_of h7 rfl rfl ?_
          simp (disch := omega) [upd_eq, tyU32, tyNum, in_i64]
          exact IH i _ (by omega) (by omega) ⟨by simp [upd_eq, refsLt], by simp [upd_eq, hstep]⟩

theorem rest (lo hi m : Nat) (hl : lo < W) (hh : hi < W) (hm : m < W) : ASpec Try.prog 30 [num lo, num hi, num m] (.tup [num (restN (hi * W + lo) m), .bool (decide (m ≠ 0))]) := by
  refine ASpec.start 1000 Try.func30 (fn := Try.f30) rfl (by decide) mixed (by kernel_rfl) (by simp) ?_
  have h0W : 0 < W := W_pos
  by_cases hm0 : m = 0
  · subst hm0
    simp (disch := omega) [ini, upd_eq, tyNum, eql_num, restN, resA_L Try.results30]
  simp (disch := omega) [ini, upd_eq, tyNum, eql_num, hm0]
  generalize hX : hi * W + lo = X
  refine goT_down (X := Nat) (fun i => i) (fun i => [(3, .ptr 0 0), (4, .ptr 1 0), (5, .ptr 2 0), (6, .ptr 3 0), (8, .ptr 4 0), (9, .int .i64 ((i : Int) - 1))])
    (fun i => [(0, ⟨numL lo, true⟩), (1, ⟨numL hi, true⟩), (2, ⟨numL m, true⟩), (3, ⟨numL 0, true⟩), (4, ⟨numL (dv X i % m), true⟩)]) 5
    (fun i => i ≤ 512) ?_ 512 (Nat.le_refl _) ⟨by simp [upd_eq, refsLt], by have := rest_top hl hh; rw [hX] at this; simp [upd_eq, this]⟩
  intro i hi' IH
  refine goT_round mixed 100 ?_
  cases i with
  | zero =>
    simp (disch := omega) [st_eq, upd_eq, tyNum, restN, hm0, resA_L Try.results30]
  | succ i =>
    have hb := bitN_le X i
    obtain ⟨hv2, hstep⟩ := rest_stepD (X := X) (m := m) (i := i) (by omega) rfl
    have hr := Nat.mod_lt (dv X (i + 1)) (show 0 < m by omega)
    generalize hR : dv X (i + 1) % m = R at *
    have hov : 2 * R / W = (2 * R + bitN X i) / W := over_eq hb
    generalize hV : 2 * R + bitN X i = v at *
    have h7 := add R R (by omega) (by omega)
    rw [num_mod, show R + R = 2 * R by omega, hov] at h7
    have hq1 : v < m → v / W = 0 := fun h => Nat.div_eq_of_lt (by omega)
    have hq2 : v < W → v / W = 0 := fun h => Nat.div_eq_of_lt h
    have hq3 : W ≤ v → v / W = 1 := fun h => by
      have : v < W * 2 := by omega
      have := Nat.div_lt_of_lt_mul this
      have := Nat.div_pos h W_pos
      omega
    generalize hq : v / W = q at *
    have hl0 := limb_lt (2 * R) 0
    have hs := numL_low (A := R) hb rfl
    have ho := bor32 hl0 (show bitN X i < 4294967296 by omega)
    rw [or_low hb] at ho
    rw [hV] at ho hs
    have e256 : ((i : Int) % 256).toNat = i % 256 := by omega
    simp (disch := omega) [st_eq, upd_eq, tyU32, tyNum, in_i64]
    by_cases h256 : 256 ≤ i
    case' pos =>
      have e : ((i : Int) % 256) = ((i - 256 : Nat) : Int) := by omega
      have hbit := bit hi (i - 256) (by omega)
      rw [bit_hi hl h256, hX] at hbit
      simp (disch := omega) [upd_eq, tyNum, show (256 : Int) ≤ i by omega]
      refine callT_of h7 rfl rfl ?_
      simp (disch := omega) [upd_eq, tyU32, tyNum, numL_get, limbA_def, binA_rem, e]
      refine callT_of hbit rfl rfl ?_
    case' neg =>
      have e : ((i : Int) % 256) = (i : Int) := by omega
      have hbit := bit lo i (by omega)
      rw [bit_lo (hi := hi) (show i < 256 by omega), hX] at hbit
      simp (disch := omega) [upd_eq, tyNum, show ¬ (256 : Int) ≤ i by omega]
      refine callT_of h7 rfl rfl ?_
      simp (disch := omega) [upd_eq, tyU32, tyNum, numL_get, limbA_def, binA_rem, e]
      refine callT_of hbit rfl rfl ?_
    all_goals
      simp (disch := omega) [upd_eq, tyU32, tyNum, ho, hs, store_int, segA_all]
      have hvW : v % W < W := Nat.mod_lt _ W_pos
      have h8 := sub (v % W) m hvW hm
      rw [num_mod v] at h8
      refine callT_of h8 rfl rfl ?_
      by_cases hlt : v < m
      · have h1 : q = 0 := hq1 hlt
        have h2 : v % W = v := Nat.mod_eq_of_lt (by omega)
        rw [if_pos hlt] at hstep
        have hb0 : bitsA .or .u32 0 0 = 0 := by decide
        simp (disch := omega) [upd_eq, tyU32, tyNum, h1, h2, hlt, hb0, in_u32]
        refine callT_of (pick 0 _ v) rfl rfl ?_
        simp (disch := omega) [upd_eq, tyU32, tyNum, in_i64]
        exact IH i _ (by omega) (by omega) ⟨by simp [upd_eq, refsLt], by simp [upd_eq, hstep]⟩
      · have h2 := rest_sub hm hv2 hlt
        rw [if_neg hlt] at hstep
        have h9 : ∃ y : Nat, y ≠ 0 ∧ bitsA .or .u32 (q : Int) (IntKind.u32.wrap (1 - ((if v % W < m then 1 else 0 : Nat) : Int))) = (y : Nat) := by
          refine ⟨1, by decide, ?_⟩
          rcases Nat.lt_or_ge v W with hvl | hvl
          · rw [hq2 hvl, Nat.mod_eq_of_lt hvl, if_neg hlt]
            decide
          · rw [hq3 hvl]
            split <;> decide
        obtain ⟨y, hy, h9⟩ := h9
        generalize hln : (if v % W < m then 1 else 0 : Nat) = lent at h9
        simp (disch := omega) only [hln, h2]
        simp (disch := omega) [upd_eq, tyU32, tyNum, h9]
        refine callT_of (pick y _ v) rfl rfl ?_
        simp (disch := omega) [upd_eq, tyU32, tyNum, in_i64, hy]
        exact IH i _ (by omega) (by omega) ⟨by simp [upd_eq, refsLt], by simp [upd_eq, hstep]⟩
end Go.Proofs.Ytfgojdnakidifaa
