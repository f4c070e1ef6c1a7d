/-
  Contracts of limb: sums, differences, order, bits.
-/
import Derived.Test.YtfgojdnakidifaaTy
set_option linter.unusedSimpArgs false
set_option linter.unusedVariables false
namespace Go.Proofs.Ytfgojdnakidifaa
open Go.Am

/-- 2^256 -/
def W : Nat := 2 ^ 256
theorem W_pos : 0 < W := Nat.two_pow_pos _
theorem W_split {i : Nat} (h : i < 8) : W = 2 ^ (32 * i) * (4294967296 * 2 ^ (32 * (7 - i))) := by
  unfold W
  rw [show (4294967296 : Nat) = 2 ^ 32 from rfl, ← Nat.pow_add, ← Nat.pow_add]
  congr 1
  omega
theorem limb_mod {N i : Nat} (h : i < 8) : limb (N % W) i = limb N i := by
  simp only [limb_def]
  have hW := W_split h
  have hp : 0 < 2 ^ (32 * i) := Nat.two_pow_pos _
  rw [hW, Nat.mod_mul_right_div_self, show (2 : Nat) ^ 32 = 4294967296 from rfl]
  exact Nat.mod_mul_right_mod _ _ _
theorem num_mod (N : Nat) : num (N % W) = num N := by
  unfold num numL
  congr 1
  exact famL_congr fun i hi => by rw [limbA, limbA, limb_mod hi]
theorem limb_addW {N i : Nat} (h : i < 8) : limb (N + W) i = limb N i := by
  rw [← limb_mod h, Nat.add_mod_right, limb_mod h]
theorem carry_W {A B : Nat} (hA : A < W) (hB : B < W) : carry A B 8 = (A + B) / W := by
  unfold carry
  rw [show 2 ^ (32 * 8) = W from rfl, Nat.mod_eq_of_lt hA, Nat.mod_eq_of_lt hB]

theorem add32 (x y c : Nat) (hx : x < 4294967296) (hy : y < 4294967296) (hc : c < 4294967296) : ASpec Try.prog 38 [.int .u32 x, .int .u32 y, .int .u32 c] (.tup [.int .u32 ((x + y + c) % 4294967296 : Nat), .int .u32 ((x + y + c) / 4294967296 : Nat)]) := by
  refine ASpec.start 1000 Try.func38 (fn := Try.f38) rfl (by decide) mixed (by kernel_rfl) (by simp) ?_
  simp (disch := omega) [ini, upd_eq, tyU32, tyU64, in_u64, in_u32, binA_shr, w_u32, resA_L Try.results38]
theorem add32' (A B i : Nat) : ASpec Try.prog 38 [limbA A i, limbA B i, .int .u32 (carry A B i : Nat)] (.tup [limbA (A + B) i, .int .u32 (carry A B (i + 1) : Nat)]) := by
  have h := add32 (limb A i) (limb B i) (carry A B i) (limb_lt _ _) (limb_lt _ _) (by have := carry_le A B i; omega)
  rw [carry_step] at h
  have h1 := limb_lt (A + B) i
  rwa [show (limb (A + B) i + 4294967296 * carry A B (i + 1)) % 4294967296 = limb (A + B) i by omega, show (limb (A + B) i + 4294967296 * carry A B (i + 1)) / 4294967296 = carry A B (i + 1) by omega] at h

theorem add0 (A B : Nat) : ASpec Try.prog 24 [num A, num B] (.tup [num (A + B), .int .u32 (carry A B 8 : Nat)]) := by
  refine ASpec.start 1000 Try.func24 (fn := Try.f24) rfl (by decide) mixed (by kernel_rfl) (by simp) ?_
  simp (disch := omega) [ini, upd_eq, tyNum]
  refine goT_count (fun i => [(2, .ptr 0 0), (3, .ptr 1 0), (4, .ptr 2 0), (6, .int .u32 (carry A B i : Nat)), (8, .int .i64 (i : Nat))]) (fun i => [(0, ⟨mixN (A + B) A i, true⟩), (1, ⟨numL B, true⟩), (2, ⟨numL 0, true⟩)]) 3 8 ?_ ?_ ?_
  · intro i hi IH
    refine goT_round mixed 100 ?_
    simp (disch := omega) [st_eq, upd_eq, tyU32, tyNum, show (i : Int) < 8 by omega, mixN_get hi, numL_get hi]
    refine callT_of (add32' A B i) rfl rfl ?_
    simp (disch := omega) [upd_eq, tyU32, tyNum, show (i : Int) < 8 by omega, limbA_def, store_int, hi, in_i64]
    refine IH _ ⟨?_, ?_⟩
    · simp [upd_eq, refsLt]
    · simp [upd_eq]
      exact mixN_set rfl
  · refine goT_round mixed 100 ?_
    simp (disch := omega) [st_eq, upd_eq, tyNum, resA_L Try.results24]
  · constructor
    · simp [upd_eq, refsLt, carry_zero]
    · simp [upd_eq]

theorem sub32 (x y b : Nat) (hx : x < 4294967296) (hy : y < 4294967296) (hb : b ≤ 1) :
    ASpec Try.prog 40 [.int .u32 x, .int .u32 y, .int .u32 b] (.tup [.int .u32 ((x + 8589934592 - y - b) % 4294967296 : Nat), .int .u32 (if x < y + b then 1 else 0 : Nat)]) := by
  refine ASpec.start 1000 Try.func40 (fn := Try.f40) rfl (by decide) mixed (by kernel_rfl) (by simp) ?_
  have hxy : x ^^^ y < 4294967296 := Nat.xor_lt_two_pow (n := 32) hx hy
  have hn : (4294967295 - x) &&& y < 4294967296 := Nat.and_lt_two_pow (n := 32) _ hy
  have hbo := borrow32 hx hy hb
  have hd : (x + 8589934592 - y - b) % 4294967296 < 4294967296 := Nat.mod_lt _ (by decide)
  have e1 : (((x : Int) - y) % 4294967296 - b) % 4294967296 = (((x + 8589934592 - y - b) % 4294967296 : Nat) : Int) := by omega
  rw [← hbo]
  generalize (x + 8589934592 - y - b) % 4294967296 = d at *
  have hm : (4294967295 - (x ^^^ y)) &&& d < 4294967296 := Nat.and_lt_two_pow (n := 32) _ hd
  simp [ini, upd_eq, w_u32, e1, IntKind.signed, IntKind.max, bnot32 hx, band32 (show 4294967295 - x < 4294967296 by omega) hy, bxor32 hx hy, bnot32 hxy, band32 (show 4294967295 - (x ^^^ y) < 4294967296 by omega) hd,
    bor32 hn hm, binA_shr, resA_L Try.results40]

theorem add (A B : Nat) (hA : A < W) (hB : B < W) : ASpec Try.prog 24 [num A, num B] (.tup [num ((A + B) % W), .int .u32 ((A + B) / W : Nat)]) := by
  rw [num_mod, ← carry_W hA hB]; exact add0 A B

theorem sub32' (A B D i : Nat) (hi : i < 8) (h : D + B = A + W) : ASpec Try.prog 40 [limbA A i, limbA B i, .int .u32 (carry D B i : Nat)] (.tup [limbA D i, .int .u32 (carry D B (i + 1) : Nat)]) := by
  have hs := carry_step D B i
  rw [h, limb_addW hi] at hs
  have h0 := carry_le D B i
  have h1 := carry_le D B (i + 1)
  have h2 := limb_lt A i
  have h3 := limb_lt B i
  have h4 := limb_lt D i
  have hq := sub32 (limb A i) (limb B i) (carry D B i) h2 h3 h0
  rw [show (limb A i + 8589934592 - limb B i - carry D B i) % 4294967296 = limb D i by omega,
    show (if limb A i < limb B i + carry D B i then 1 else 0 : Nat) = carry D B (i + 1) by split <;> omega] at hq
  exact hq

theorem sub0 (A B D : Nat) (h : D + B = A + W) : ASpec Try.prog 26 [num A, num B] (.tup [num D, .int .u32 (carry D B 8 : Nat)]) := by
  refine ASpec.start 1000 Try.func26 (fn := Try.f26) rfl (by decide) mixed (by kernel_rfl) (by simp) ?_
  simp (disch := omega) [ini, upd_eq, tyNum]
  refine goT_count (fun i => [(2, .ptr 0 0), (3, .ptr 1 0), (4, .ptr 2 0), (6, .int .u32 (carry D B i : Nat)), (8, .int .i64 (i : Nat))]) (fun i => [(0, ⟨mixN D A i, true⟩), (1, ⟨numL B, true⟩), (2, ⟨numL 0, true⟩)]) 3 8 ?_ ?_ ?_
  · intro i hi IH
    refine goT_round mixed 100 ?_
    simp (disch := omega) [st_eq, upd_eq, tyU32, tyNum, show (i : Int) < 8 by omega, mixN_get hi, numL_get hi]
    refine callT_of (sub32' A B D i hi h) rfl rfl ?_
    simp (disch := omega) [upd_eq, tyU32, tyNum, show (i : Int) < 8 by omega, limbA_def, store_int, hi, in_i64]
    refine IH _ ⟨?_, ?_⟩
    · simp [upd_eq, refsLt]
    · simp [upd_eq]
      exact mixN_set rfl
  · refine goT_round mixed 100 ?_
    simp (disch := omega) [st_eq, upd_eq, tyNum, resA_L Try.results26]
  · constructor
    · simp [upd_eq, refsLt, carry_zero]
    · simp [upd_eq]

theorem sub_num {A B : Nat} (hA : A < W) (hB : B < W) : carry (A + W - B) B 8 = if A < B then 1 else 0 := by
  unfold carry
  rw [show 2 ^ (32 * 8) = W from rfl, Nat.mod_eq_of_lt hB]
  by_cases h : A < B
  · rw [if_pos h, Nat.mod_eq_of_lt (by omega), show A + W - B + B = A + W by omega, Nat.add_div_right _ W_pos, Nat.div_eq_of_lt hA]
  · rw [if_neg h, show A + W - B = A - B + W by omega, Nat.add_mod_right, Nat.mod_eq_of_lt (by omega), Nat.div_eq_of_lt (by omega)]
theorem sub (A B : Nat) (hA : A < W) (hB : B < W) : ASpec Try.prog 26 [num A, num B] (.tup [num ((A + W - B) % W), .int .u32 (if A < B then 1 else 0 : Nat)]) := by
  rw [num_mod, ← sub_num hA hB]; exact sub0 A B _ (by omega)

/-- -1, 0, 1 -/
def cmpZ (a b : Nat) : Int := if a < b then -1 else if b < a then 1 else 0
theorem order (x y : Nat) : ASpec Try.prog 41 [.int .u32 x, .int .u32 y] (.int .i64 (cmpZ x y)) := by
  refine ASpec.start 1000 Try.func41 (fn := Try.f41) rfl (by decide) mixed (by kernel_rfl) (by simp) ?_
  unfold cmpZ
  by_cases h1 : x < y
  · simp [ini, upd_eq, h1, resA_L Try.results41]
  · by_cases h2 : y < x
    · simp [ini, upd_eq, h1, h2, resA_L Try.results41]
    · simp [ini, upd_eq, h1, h2, resA_L Try.results41]

/-- The limbs from i on. -/
theorem div_limb (A i : Nat) : A / 2 ^ (32 * i) = limb A i + 4294967296 * (A / 2 ^ (32 * (i + 1))) := by
  simp only [limb_def]
  rw [show 32 * (i + 1) = 32 * i + 32 by omega, Nat.pow_add, ← Nat.div_div_eq_div_mul, show (2 : Nat) ^ 32 = 4294967296 from rfl]
  omega
theorem cmp_down (A B i : Nat) (h : A / 2 ^ (32 * (i + 1)) = B / 2 ^ (32 * (i + 1))) (hl : limb A i = limb B i) : A / 2 ^ (32 * i) = B / 2 ^ (32 * i) := by
  rw [div_limb A i, div_limb B i, h, hl]
theorem cmp_here (A B i : Nat) (h : A / 2 ^ (32 * (i + 1)) = B / 2 ^ (32 * (i + 1))) (hl : limb A i ≠ limb B i) : cmpZ A B = cmpZ (limb A i) (limb B i) := by
  have h1 := div_limb A i
  have h2 := div_limb B i
  have key : ∀ x y : Nat, x / 2 ^ (32 * i) < y / 2 ^ (32 * i) → x < y := fun x y hxy => by
    rcases Nat.lt_or_ge x y with h | h
    · exact h
    · have := Nat.div_le_div_right (c := 2 ^ (32 * i)) h; omega
  unfold cmpZ
  rcases Nat.lt_or_gt_of_ne hl with h3 | h3
  · have := key A B (by omega)
    rw [if_pos this, if_pos h3]
  · have := key B A (by omega)
    rw [if_neg (by omega), if_pos this, if_neg (by omega), if_pos h3]
theorem W_top {A : Nat} (hA : A < W) : A / 2 ^ (32 * 8) = 0 := Nat.div_eq_of_lt hA

theorem cmp (A B : Nat) (hA : A < W) (hB : B < W) : ASpec Try.prog 29 [num A, num B] (.int .i64 (cmpZ A B)) := by
  refine ASpec.start 1000 Try.func29 (fn := Try.f29) rfl (by decide) mixed (by kernel_rfl) (by simp) ?_
  simp (disch := omega) [ini, upd_eq]
  refine goT_down (X := Nat) (fun i => i) (fun i => [(2, .ptr 0 0), (3, .ptr 1 0), (5, .int .i64 ((i : Int) - 1))]) (fun _ => [(0, ⟨numL A, true⟩), (1, ⟨numL B, true⟩)]) 2
    (fun i => i ≤ 8 ∧ A / 2 ^ (32 * i) = B / 2 ^ (32 * i)) ?_ 8 ⟨Nat.le_refl _, by rw [W_top hA, W_top hB]⟩ ⟨by simp [upd_eq, refsLt], by simp [upd_eq]⟩
  rintro i ⟨hi, hd⟩ IH
  refine goT_round mixed 100 ?_
  cases i with
  | zero =>
    have : A = B := by simpa using hd
    subst this
    simp [st_eq, upd_eq, cmpZ, resA_L Try.results29]
  | succ i =>
    have hi8 : i < 8 := by omega
    simp (disch := omega) [st_eq, upd_eq, tyU32, tyNum, show (i : Int) < 8 by omega, numL_get hi8]
    refine callT_of (order (limb A i) (limb B i)) rfl rfl ?_
    by_cases hl : limb A i = limb B i
    · have h0 : cmpZ (limb A i) (limb B i) = 0 := by simp [cmpZ, hl]
      simp (disch := omega) [upd_eq, h0, in_i64]
      exact IH i _ ⟨by omega, cmp_down A B i hd hl⟩ (by omega) ⟨by simp [upd_eq, refsLt], by simp [upd_eq]⟩
    · have h0 : cmpZ (limb A i) (limb B i) ≠ 0 := by unfold cmpZ; repeat' split <;> omega
      have hc := cmp_here A B i hd hl
      have h0' : (cmpZ (limb A i) (limb B i) != 0) = true := by rw [bne_iff_ne]; exact h0
      simp (disch := omega) [upd_eq, h0', resA_L Try.results29, hc]
end Go.Proofs.Ytfgojdnakidifaa
