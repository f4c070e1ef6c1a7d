/-
  Contracts of limb and of the document: how many bits, order, sums, differences.
-/
import Derived.Test.YtfgojdnakidifaaLimb2
set_option linter.unusedSimpArgs false
set_option linter.unusedVariables false
namespace Go.Proofs.Ytfgojdnakidifaa
open Go.Am

/-- how many bits a number has -/
def blen (n : Nat) : Nat := if n = 0 then 0 else n.log2 + 1
theorem blen_zero : blen 0 = 0 := rfl
theorem blen_eq {n k : Nat} (h1 : 2 ^ k ≤ n) (h2 : n < 2 ^ (k + 1)) : blen n = k + 1 := by
  have hn : n ≠ 0 := by have := Nat.two_pow_pos k; omega
  unfold blen
  rw [if_neg hn, (Nat.log2_eq_iff hn).2 ⟨h1, h2⟩]
theorem blen_shift {n k : Nat} (h : n / 2 ^ k ≠ 0) : blen n = blen (n / 2 ^ k) + k := by
  have hm : n / 2 ^ k ≠ 0 := h
  generalize hq : n / 2 ^ k = m at *
  have hl := (Nat.log2_eq_iff hm).1 rfl
  have hp := Nat.two_pow_pos k
  have e : blen m = m.log2 + 1 := by unfold blen; rw [if_neg hm]
  rw [e, show m.log2 + 1 + k = (m.log2 + k) + 1 by omega]
  refine blen_eq ?_ ?_
  · rw [Nat.pow_add]
    have : m * 2 ^ k ≤ n := by rw [← hq]; exact Nat.div_mul_le_self _ _
    exact Nat.le_trans (Nat.mul_le_mul_right _ hl.1) this
  · rw [show m.log2 + k + 1 = (m.log2 + 1) + k by omega, Nat.pow_add, ← Nat.div_lt_iff_lt_mul hp, hq]
    exact hl.2
theorem blen_le {n k : Nat} (h : n < 2 ^ k) : blen n ≤ k := by
  unfold blen
  split
  · omega
  · rename_i hn
    have := (Nat.log2_lt hn).2 h
    omega
theorem len_tab0 : ∀ y : Fin 256, (ByteArray.mk #[0, 1, 2, 2, 3, 3, 3, 3, 4, 4, 4, 4, 4, 4, 4, 4, 5, 5, 5, 5, 5, 5, 5, 5, 5, 5, 5, 5, 5, 5, 5, 5, 6, 6, 6, 6, 6, 6, 6, 6, 6, 6, 6, 6, 6, 6, 6, 6, 6, 6, 6, 6, 6, 6, 6, 6, 6, 6, 6, 6, 6, 6, 6, 6, 7, 7, 7, 7, 7, 7, 7, 7, 7, 7, 7, 7, 7, 7, 7, 7, 7, 7, 7, 7, 7, 7, 7, 7, 7, 7, 7, 7, 7, 7, 7, 7, 7, 7, 7, 7, 7, 7, 7, 7, 7, 7, 7, 7, 7, 7, 7, 7, 7, 7, 7, 7, 7, 7, 7, 7, 7, 7, 7, 7, 7, 7, 7, 7, 8, 8, 8, 8, 8, 8, 8, 8, 8, 8, 8, 8, 8, 8, 8, 8, 8, 8, 8, 8, 8, 8, 8, 8, 8, 8, 8, 8, 8, 8, 8, 8, 8, 8, 8, 8, 8, 8, 8, 8, 8, 8, 8, 8, 8, 8, 8, 8, 8, 8, 8, 8, 8, 8, 8, 8, 8, 8, 8, 8, 8, 8, 8, 8, 8, 8, 8, 8, 8, 8, 8, 8, 8, 8, 8, 8, 8, 8, 8, 8, 8, 8, 8, 8, 8, 8, 8, 8, 8, 8, 8, 8, 8, 8, 8, 8, 8, 8, 8, 8, 8, 8, 8, 8, 8, 8, 8, 8, 8, 8, 8, 8, 8, 8, 8, 8, 8, 8, 8, 8, 8, 8, 8, 8, 8, 8, 8, 8])[y.val]? = some (UInt8.ofNat (blen y.val)) := by decide +kernel
theorem len_tab {y : Nat} (h : y < 256) : (ByteArray.mk #[0, 1, 2, 2, 3, 3, 3, 3, 4, 4, 4, 4, 4, 4, 4, 4, 5, 5, 5, 5, 5, 5, 5, 5, 5, 5, 5, 5, 5, 5, 5, 5, 6, 6, 6, 6, 6, 6, 6, 6, 6, 6, 6, 6, 6, 6, 6, 6, 6, 6, 6, 6, 6, 6, 6, 6, 6, 6, 6, 6, 6, 6, 6, 6, 7, 7, 7, 7, 7, 7, 7, 7, 7, 7, 7, 7, 7, 7, 7, 7, 7, 7, 7, 7, 7, 7, 7, 7, 7, 7, 7, 7, 7, 7, 7, 7, 7, 7, 7, 7, 7, 7, 7, 7, 7, 7, 7, 7, 7, 7, 7, 7, 7, 7, 7, 7, 7, 7, 7, 7, 7, 7, 7, 7, 7, 7, 7, 7, 8, 8, 8, 8, 8, 8, 8, 8, 8, 8, 8, 8, 8, 8, 8, 8, 8, 8, 8, 8, 8, 8, 8, 8, 8, 8, 8, 8, 8, 8, 8, 8, 8, 8, 8, 8, 8, 8, 8, 8, 8, 8, 8, 8, 8, 8, 8, 8, 8, 8, 8, 8, 8, 8, 8, 8, 8, 8, 8, 8, 8, 8, 8, 8, 8, 8, 8, 8, 8, 8, 8, 8, 8, 8, 8, 8, 8, 8, 8, 8, 8, 8, 8, 8, 8, 8, 8, 8, 8, 8, 8, 8, 8, 8, 8, 8, 8, 8, 8, 8, 8, 8, 8, 8, 8, 8, 8, 8, 8, 8, 8, 8, 8, 8, 8, 8, 8, 8, 8, 8, 8, 8, 8, 8, 8, 8, 8, 8])[y]? = some (UInt8.ofNat (blen y)) := len_tab0 ⟨y, h⟩
theorem index_str {sz b : Nat} {ag : Bool} {z : List AV} {s : ByteArray} {q : IntKind} {x : Int} (h : 0 ≤ x) : indexA ⟨sz, b, ag, z, .str⟩ (.str s) (.int q x) = (s[x.toNat]?).map fun b => .int .u8 b.toNat := by
  simp [indexA, h]

set_option maxRecDepth 8000 in
theorem len32 (x : Nat) (hx : x < 4294967296) : ASpec Try.prog 39 [.int .u32 (x : Nat)] (.int .i64 (blen x : Nat)) := by
  refine ASpec.start 1000 Try.func39 (fn := Try.f39) rfl (by decide) mixed (by kernel_rfl) (by simp) ?_
  have h8 : ∀ y, y < 256 → blen y % 256 = blen y := fun y hy => by have := blen_le (k := 8) hy; omega
  by_cases h1 : 65536 ≤ x
  · have e1 := blen_shift (n := x) (k := 16) (by omega)
    have e0 : ((x : Int) / 65536) = (x / 65536 : Nat) := by omega
    generalize hz : x / 65536 = z at *
    have hz2 : z < 65536 := by omega
    by_cases h2 : 256 ≤ z
    · have e2 := blen_shift (n := z) (k := 8) (by omega)
      have e3 : ((z : Int) / 256) = (z / 256 : Nat) := by omega
      have hy := len_tab (y := z / 256) (by omega)
      have hb := blen_le (n := z / 256) (k := 8) (by omega)
      have hy8 := h8 (z / 256) (by omega)
      generalize hw : z / 256 = w at *
      simp (disch := omega) [ini, upd_eq, tyU8, tyU32, tyStr, tyInt, binA_shr, show (65536 : Int) ≤ x by omega, show (256 : Int) ≤ z by omega, e0, e3, in_u8, in_u32, in_i64, index_str, hy, hy8, resA_L Try.results39]
      omega
    · have hy := len_tab (y := z) (by omega)
      have hb := blen_le (n := z) (k := 8) (by omega)
      have hy8 := h8 z (by omega)
      simp (disch := omega) [ini, upd_eq, tyU8, tyU32, tyStr, tyInt, binA_shr, show (65536 : Int) ≤ x by omega, show ¬ (256 : Int) ≤ z by omega, e0, in_u8, in_u32, in_i64, index_str, hy, hy8, resA_L Try.results39]
      omega
  · by_cases h2 : 256 ≤ x
    · have e2 := blen_shift (n := x) (k := 8) (by omega)
      have e3 : ((x : Int) / 256) = (x / 256 : Nat) := by omega
      have hy := len_tab (y := x / 256) (by omega)
      have hb := blen_le (n := x / 256) (k := 8) (by omega)
      have hy8 := h8 (x / 256) (by omega)
      generalize hw : x / 256 = w at *
      simp (disch := omega) [ini, upd_eq, tyU8, tyU32, tyStr, tyInt, binA_shr, show ¬ (65536 : Int) ≤ x by omega, show (256 : Int) ≤ x by omega, e3, in_u8, in_u32, in_i64, index_str, hy, hy8, resA_L Try.results39]
      omega
    · have hy := len_tab (y := x) (by omega)
      have hb := blen_le (n := x) (k := 8) (by omega)
      have hy8 := h8 x (by omega)
      simp (disch := omega) [ini, upd_eq, tyU8, tyU32, tyStr, tyInt, binA_shr, show ¬ (65536 : Int) ≤ x by omega, show ¬ (256 : Int) ≤ x by omega, in_u8, in_u32, in_i64, index_str, hy, hy8, resA_L Try.results39]

/-- What is above limb i is nothing. -/
theorem blen_limb {A i : Nat} (h : A / 2 ^ (32 * (i + 1)) = 0) (hl : limb A i ≠ 0) : blen A = 32 * i + blen (limb A i) := by
  have h1 := div_limb A i
  rw [h] at h1
  have h2 : A / 2 ^ (32 * i) = limb A i := by omega
  have := blen_shift (n := A) (k := 32 * i) (by omega)
  rw [h2] at this
  omega
theorem bits (A : Nat) (hA : A < W) : ASpec Try.prog 25 [num A] (.int .i64 (blen A : Nat)) := by
  refine ASpec.start 1000 Try.func25 (fn := Try.f25) rfl (by decide) mixed (by kernel_rfl) (by simp) ?_
  simp (disch := omega) [ini, upd_eq]
  refine goT_down (X := Nat) (fun i => i) (fun i => [(1, .ptr 0 0), (3, .int .i64 ((i : Int) - 1))]) (fun _ => [(0, ⟨numL A, true⟩)]) 1
    (fun i => i ≤ 8 ∧ A / 2 ^ (32 * i) = 0) ?_ 8 ⟨Nat.le_refl _, W_top hA⟩ ⟨by simp [upd_eq, refsLt], by simp [upd_eq]⟩
  rintro i ⟨hi, hd⟩ IH
  refine goT_round mixed 100 ?_
  cases i with
  | zero =>
    have : A = 0 := by simpa using hd
    subst this
    simp [st_eq, upd_eq, blen_zero, resA_L Try.results25]
  | succ i =>
    have hi8 : i < 8 := by omega
    have hl := limb_lt A i
    by_cases h0 : limb A i = 0
    · simp (disch := omega) [st_eq, upd_eq, tyU32, tyNum, show (i : Int) < 8 by omega, numL_get hi8, limbA_def, h0, in_i64]
      refine IH i _ ⟨by omega, ?_⟩ (by omega) ⟨by simp [upd_eq, refsLt], by simp [upd_eq]⟩
      rw [div_limb, h0, hd]
    · have hb := blen_limb hd h0
      have hb2 := blen_le (n := limb A i) (k := 32) hl
      simp (disch := omega) [st_eq, upd_eq, tyU32, tyNum, show (i : Int) < 8 by omega, numL_get hi8, limbA_def, h0, in_i64, show ((limb A i : Int) != 0) = true by simp [h0]]
      refine callT_of (len32 (limb A i) hl) rfl rfl ?_
      simp (disch := omega) [upd_eq, in_i64, hb, resA_L Try.results25]
end Go.Proofs.Ytfgojdnakidifaa
