/-
  MontB: Mont9, Mont10, Mont11, Mont12
-/
import Derived.Test.YtgefihgogfkjoaaMontA
set_option linter.unusedSimpArgs false
set_option linter.unusedVariables false
/-! Contracts of mont: out, powers; a number divided; a difference. -/
namespace Go.Proofs.Ytgefihgogfkjoaa
open Go.Am

theorem out_ {M R T a : Nat} (ha : a < W) (hm : M < W) (ho : M % 2 = 1) (haM : a ≤ M * (W - 1)) : ASpec Try.prog 98 [mont M R T (negN M), num a] (num (redc M a)) := by
  refine ASpec.start 1000 Try.func98 (fn := Try.f98) rfl (by decide) mixed (by kernel_rfl) (by simp) ?_
  have h0W' := W_big
  simp (disch := omega) [ini, upd_eq, tyNum, tyMont]
  refine callT_of (fromN 1 (by omega)) rfl rfl ?_
  simp (disch := omega) [upd_eq, tyNum, tyMont]
  have hlt : a * 1 < M * W := by
    have h1 : M * (W - 1) + M = M * W := by rw [← Nat.mul_succ]; congr 1
    omega
  have s := mmul (R := R) (T := T) ha (show 1 < W by omega) hm ho (neg_mod ho) (negN_lt M) hlt
  rw [Nat.mul_one] at s
  refine callT_of s rfl rfl ?_
  simp (disch := omega) [upd_eq, tyNum, resA_L Try.results98]
theorem out_mm {M R T a : Nat} (hm : M < W) (ho : M % 2 = 1) : ASpec Try.prog 98 [mont M R T (negN M), num (mm M a)] (num (a % M)) := by
  have h0W' := W_big
  have h1 := mm_lt ho a
  have h2 : M * 1 ≤ M * (W - 1) := Nat.mul_le_mul_left _ (by omega)
  have := out_ (R := R) (T := T) (show mm M a < W by omega) hm ho (by omega)
  rw [show redc M (mm M a) = a % M by have := mm_out ho a; rwa [Nat.mul_one] at this] at this
  exact this
theorem mmul_mm {M R T a b : Nat} (hm : M < W) (ho : M % 2 = 1) : ASpec Try.prog 97 [mont M R T (negN M), num (mm M a), num (mm M b)] (num (mm M (a * b))) := by
  have h1 := mm_lt ho a
  have h2 := mm_lt ho b
  have := mmul (R := R) (T := T) (A := mm M a) (B := mm M b) (by omega) (by omega) hm ho (neg_mod ho) (negN_lt M) (Nat.mul_lt_mul_of_lt_of_le h1 (by omega) (by omega))
  rwa [mm_mul ho] at this

theorem low_pow (a e i : Nat) : a ^ (e % 2 ^ (i + 1)) = a ^ (e % 2 ^ i) * (if bitN e i = 1 then a ^ 2 ^ i else 1) := by
  have h : e % 2 ^ (i + 1) = e % 2 ^ i + 2 ^ i * bitN e i := by
    rw [Nat.pow_succ, Nat.mod_mul]; rfl
  rw [h, Nat.pow_add]
  have hb := bitN_le e i
  rcases (by omega : bitN e i = 0 ∨ bitN e i = 1) with h1 | h1 <;> simp [h1]
theorem pow_ {M a e : Nat} {T : Nat} (ha : a < W) (he : e < W) (hm : M < W) (ho : M % 2 = 1) : ASpec Try.prog 75 [mont M (W % M) T (negN M), num a, num e] (num (a ^ e % M)) := by
  refine ASpec.start 1000 Try.func75 (fn := Try.f75) rfl (by decide) mixed (by kernel_rfl) (by simp) ?_
  have h0W' := W_big
  simp (disch := omega) [ini, upd_eq, tyNum, tyMont]
  refine callT_of (in_ ha hm (by omega)) rfl rfl ?_
  simp (disch := omega) [upd_eq, tyNum, tyMont, tyPair]
  refine callT_of (bits e he) rfl rfl ?_
  have hb256 := blen_le (n := e) (k := 256) he
  have hR : W % M = mm M 1 := by rw [mm, Nat.one_mul]
  rw [hR]
  simp (disch := omega) [upd_eq, tyNum]
  refine goT_count (fun i => [(3, .ptr 0 0), (5, .ptr 2 0), (6, .ptr 3 0), (7, .ptr 4 0), (16, .int .i64 (blen e : Nat)), (17, .int .i64 (i : Nat))])
    (fun i => [(0, ⟨montL M (mm M 1) T (negN M), true⟩), (2, ⟨numL e, true⟩), (3, ⟨numL 0, true⟩), (4, ⟨pairL (mm M (a ^ (e % 2 ^ i))) (mm M (a ^ 2 ^ i)), true⟩)]) 5 (blen e) ?_ ?_ ?_
  · intro i hi IH
    refine goT_round mixed 100 ?_
    have hq : i / 32 < 8 := by omega
    have e1 : ((i : Int) / 32).toNat = i / 32 := by omega
    have e2 : ((i : Int) % 32).toNat = i % 32 := by omega
    have e3 : min (i % 32) 32 = i % 32 := by omega
    have hbi := bitN_le e i
    have hlp := low_pow a e i
    have hsq : a ^ 2 ^ i * a ^ 2 ^ i = a ^ 2 ^ (i + 1) := by rw [← Nat.pow_add, Nat.pow_succ, Nat.mul_two]
    by_cases hb : bitN e i = 1
    · rw [if_pos hb] at hlp
      simp (disch := omega) [st_eq, upd_eq, show (i : Int) < blen e by omega, tyNum, tyU32, tyInt, tyUint, tyMont, tyPair, in_u64, binA_quo, binA_rem, binA_shr, in_i64, e1, e2, e3, numL_get hq, limbA_def, bit_eq, show (i : Int) / 32 < 8 by omega, show 0 ≤ (i : Int) / 32 by omega, hb]
      refine callT_of (mmul_mm hm ho) rfl rfl ?_
      rw [← hlp]
      simp (disch := omega) [upd_eq, tyNum, tyMont, tyPair]
      refine callT_of (mmul_mm hm ho) rfl rfl ?_
      rw [hsq]
      simp (disch := omega) [upd_eq, tyNum, tyMont, tyPair, in_i64]
      exact IH _ ⟨by simp [upd_eq, refsLt], by simp [upd_eq]⟩
    · rw [if_neg hb, Nat.mul_one] at hlp
      rw [hlp] at IH
      simp (disch := omega) [st_eq, upd_eq, show (i : Int) < blen e by omega, tyNum, tyU32, tyInt, tyUint, tyMont, tyPair, in_u64, binA_quo, binA_rem, binA_shr, in_i64, e1, e2, e3, numL_get hq, limbA_def, bit_eq, show (i : Int) / 32 < 8 by omega, show 0 ≤ (i : Int) / 32 by omega, show bitN e i = 0 by omega]
      refine callT_of (mmul_mm hm ho) rfl rfl ?_
      rw [hsq]
      simp (disch := omega) [upd_eq, tyNum, tyMont, tyPair, in_i64]
      exact IH _ ⟨by simp [upd_eq, refsLt], by simp [upd_eq]⟩
  · refine goT_round mixed 100 ?_
    have hlt : e < 2 ^ blen e := by
      have := blen_top e
      rcases Nat.lt_or_ge e (2 ^ blen e) with h | h
      · exact h
      · have := Nat.div_pos h (Nat.two_pow_pos _); omega
    rw [Nat.mod_eq_of_lt hlt]
    simp (disch := omega) [st_eq, upd_eq, tyNum, tyMont, tyPair]
    refine callT_of (out_mm hm ho) rfl rfl ?_
    simp (disch := omega) [upd_eq, tyNum, resA_L Try.results75]
  · exact ⟨by simp [upd_eq, refsLt], by simp [upd_eq, Nat.mod_one]⟩

/-- A bit put under what has nothing there. -/
theorem put_bit {P q j : Nat} (hj : j < 32) (hP : P % 2 ^ (32 * q + j + 1) = 0) :
    limb P q ||| 2 ^ j = limb (P + 2 ^ (32 * q + j)) q ∧ ∀ i, i ≠ q → limb (P + 2 ^ (32 * q + j)) i = limb P i := by
  have hr : 2 ^ j < 2 ^ (j + 1) := by have := Nat.two_pow_pos j; rw [Nat.pow_succ]; omega
  have hsum : P + 2 ^ (32 * q + j) = P + 2 ^ (32 * q) * 2 ^ j := by rw [Nat.pow_add]
  have hp2 := Nat.two_pow_pos (32 * q)
  have hq0 : P / 2 ^ (32 * q) % 2 ^ (j + 1) = 0 := by
    rw [← Nat.mod_mul_right_div_self, ← Nat.pow_add, ← Nat.add_assoc, hP, Nat.zero_div]
  have hdiv : (P + 2 ^ (32 * q) * 2 ^ j) / 2 ^ (32 * q) = P / 2 ^ (32 * q) + 2 ^ j := Nat.add_mul_div_left _ _ hp2
  generalize hr' : 2 ^ j = r at *
  rw [hsum]
  have h32 : (2 : Nat) ^ 32 = 2 ^ (j + 1) * 2 ^ (31 - j) := by rw [← Nat.pow_add]; congr 1; omega
  have hT := Nat.two_pow_pos (j + 1)
  have hhi : (P / 2 ^ (32 * q) + r) / 2 ^ 32 = P / 2 ^ (32 * q) / 2 ^ 32 := by
    rw [h32, ← Nat.div_div_eq_div_mul, ← Nat.div_div_eq_div_mul]
    congr 1
    have h1 := Nat.div_add_mod (P / 2 ^ (32 * q)) (2 ^ (j + 1))
    rw [hq0, Nat.add_zero] at h1
    rw [← h1, Nat.mul_add_div hT, Nat.div_eq_of_lt hr, Nat.mul_div_cancel_left _ hT]
    rfl
  refine ⟨?_, fun i hi => ?_⟩
  · rw [limb_def, limb_def, hdiv]
    have hm : P / 2 ^ (32 * q) % 2 ^ 32 % 2 ^ (j + 1) = 0 := by
      rw [h32, Nat.mod_mul_right_mod, hq0]
    rw [or_add hm hr]
    have h1 := Nat.div_add_mod (P / 2 ^ (32 * q)) (2 ^ 32)
    have h2 := Nat.div_add_mod (P / 2 ^ (32 * q) + r) (2 ^ 32)
    rw [hhi] at h2
    omega
  · rcases Nat.lt_or_gt_of_ne hi with h | h
    · exact limb_below h
    · simp only [limb_def]
      congr 1
      have e : 2 ^ (32 * i) = 2 ^ (32 * q) * (2 ^ 32 * 2 ^ (32 * (i - q - 1))) := by
        rw [← Nat.pow_add, ← Nat.pow_add]; congr 1; omega
      rw [e, ← Nat.div_div_eq_div_mul, hdiv, ← Nat.div_div_eq_div_mul, hhi, ← Nat.div_div_eq_div_mul, ← Nat.div_div_eq_div_mul]
theorem put_bit_set {P i : Nat} {v : Int} (hP : P % 2 ^ (i + 1) = 0) (hv : v = ((limb P (i / 32) ||| 2 ^ (i % 32) : Nat) : Int)) :
    (numL P).set (i / 32) (.int .u32 v) = numL (P + 2 ^ i) := by
  have hi : 32 * (i / 32) + i % 32 = i := by omega
  obtain ⟨h1, h2⟩ := put_bit (P := P) (q := i / 32) (j := i % 32) (Nat.mod_lt _ (by decide)) (by rw [hi]; exact hP)
  rw [hi] at h1 h2
  subst hv
  unfold numL
  rw [famL_set]
  refine famL_congr fun k _ => ?_
  unfold upd
  by_cases h : k = i / 32
  · subst h; simp only [if_true, limbA, h1]
  · simp only [h, if_false, limbA, h2 k h]
/-- what is reckoned of a quotient when bits i and up are seen -/
def quo (a m i : Nat) : Nat := a / 2 ^ i / m * 2 ^ i
theorem quo_step {a m i v : Nat} (hm : 0 < m) (hv : v = 2 * (a / 2 ^ (i + 1) % m) + bitN a i) : quo a m i = quo a m (i + 1) + (if v < m then 0 else 2 ^ i) := by
  have h2 : a / 2 ^ i = 2 * (a / 2 ^ (i + 1)) + bitN a i := by
    unfold bitN
    rw [Nat.pow_succ, ← Nat.div_div_eq_div_mul]
    omega
  have h3 := Nat.div_add_mod (a / 2 ^ (i + 1)) m
  have h1 := Nat.mod_lt (a / 2 ^ (i + 1)) hm
  have hb := bitN_le a i
  unfold quo
  have h4 : a / 2 ^ i / m = 2 * (a / 2 ^ (i + 1) / m) + (if v < m then 0 else 1) := by
    rw [h2]
    generalize a / 2 ^ (i + 1) = q at *
    have e : 2 * q + bitN a i = v + m * (2 * (q / m)) := by
      rw [hv, Nat.mul_left_comm]; omega
    rw [e, Nat.add_mul_div_left _ _ hm]
    split
    · rename_i h; rw [Nat.div_eq_of_lt h]; omega
    · rename_i h
      have : v / m = 1 := Nat.div_eq_of_lt_le (by omega) (by omega)
      omega
  rw [h4, Nat.add_mul, Nat.pow_succ, Nat.mul_assoc 2, Nat.mul_comm 2, Nat.mul_assoc]
  split <;> simp
theorem quo_mod (a m i : Nat) : quo a m (i + 1) % 2 ^ (i + 1) = 0 := Nat.mul_mod_left _ _
theorem quo_zero (a m : Nat) : quo a m 0 = a / m := by simp [quo]
theorem quo_le (a m i : Nat) : quo a m i ≤ a := by
  unfold quo
  have h1 : a / 2 ^ i / m ≤ a / 2 ^ i := Nat.div_le_self _ _
  exact Nat.le_trans (Nat.mul_le_mul_right _ h1) (Nat.div_mul_le_self _ _)
end Go.Proofs.Ytgefihgogfkjoaa

/-! Contracts of mont and of the document: a number divided, a difference. -/
namespace Go.Proofs.Ytgefihgogfkjoaa
open Go.Am

theorem low_or {A b v : Nat} (hb : b < 2) (hv : v = 2 * A + b) : (numL (2 * A)).set 0 (.int .u32 (bitsA .or .u32 (limb (2 * A) 0 : Nat) (b : Nat))) = numL v := by
  subst hv
  refine numL_low hb ?_
  rw [bor32 (limb_lt _ _) (by omega), or_low hb]
theorem top31 {R : Nat} (hR : R < W) : limb R 7 / 2147483648 = 2 * R / W := by
  have hW : W = 2 ^ (32 * 7) * 4294967296 := rfl
  rw [limb_def, show (2 : Nat) ^ 32 = 4294967296 from rfl]
  have h1 : R / 2 ^ (32 * 7) < 4294967296 := Nat.div_lt_of_lt_mul (by rw [← hW]; exact hR)
  rw [Nat.mod_eq_of_lt h1, Nat.div_div_eq_div_mul, hW, show 2 ^ (32 * 7) * 4294967296 = 2 * (2 ^ (32 * 7) * 2147483648) by omega, Nat.mul_div_mul_left _ _ (show 0 < 2 by decide)]

end Go.Proofs.Ytgefihgogfkjoaa

/-! The document's quotient. -/
namespace Go.Proofs.Ytgefihgogfkjoaa
open Go.Am

end Go.Proofs.Ytgefihgogfkjoaa

/-! Inverses: mont and the document. -/
namespace Go.Proofs.Ytgefihgogfkjoaa
open Go.Am

@[simp] theorem vc_zero {P : Program} {fn : FnE} {k : List Item} {σ : AS} {r : RV} {t1 t2 t3} : vcT P fn 0 k r t1 t2 t3 σ = goT P fn k r ⟨⟩ ⟨⟩ ⟨⟩ σ := (rfl)

theorem fieldP0 {A B : Nat} : fieldA ⟨16, 64, true, pairL 0 0, .struct pairF⟩ 0 (pairA A B) = some (num A) := rfl
theorem fieldP1 {A B : Nat} : fieldA ⟨16, 64, true, pairL 0 0, .struct pairF⟩ 1 (pairA A B) = some (num B) := rfl
/-- where Euclid stands -/
structure Eu (a m hi lo t s : Nat) : Prop where
  ht : t < m
  hs : s < m
  hhi : hi ≤ m
  hlo : lo < m
  hat : Mq m (a * t) hi
  has : Mq m (a * s) lo
  hg : Nat.gcd hi lo = Nat.gcd a m
theorem Eu.start {a m : Nat} (hm : 2 ≤ m) : Eu a m m (a % m) 0 1 :=
  ⟨by omega, by omega, Nat.le_refl _, Nat.mod_lt _ (by omega), by rw [Nat.mul_zero]; unfold Mq; simp, by rw [Nat.mul_one]; exact (Mq.mod a).symm, by
    rw [Nat.gcd_comm m, ← Nat.gcd_rec, Nat.gcd_comm]⟩
theorem Eu.step {a m hi lo t s : Nat} (h : Eu a m hi lo t s) (h0 : lo ≠ 0) : Eu a m lo (hi % lo) s (if t < hi / lo * s % m then t + m - hi / lo * s % m else t - hi / lo * s % m) := by
  obtain ⟨ht, hs, hhi, hlo, h1, h2, hg⟩ := h
  have hq := Nat.mod_lt (hi / lo * s) (show 0 < m by omega)
  have hr := Nat.mod_lt hi (show 0 < lo by omega)
  refine ⟨hs, by split <;> omega, by omega, by omega, h2, ?_, ?_⟩
  · have e1 : Mq m ((if t < hi / lo * s % m then t + m - hi / lo * s % m else t - hi / lo * s % m) + hi / lo * s % m) t := by
      split
      · rw [show t + m - hi / lo * s % m + hi / lo * s % m = t + m * 1 by omega]; exact Mq.add_mul
      · exact Mq.of_eq (by omega)
    have e2 : Mq m (a * (hi / lo * s % m)) (hi / lo * lo) := by
      refine ((Mq.refl a).mul (Mq.mod _)).trans ?_
      rw [Nat.mul_left_comm]
      exact (Mq.refl _).mul h2
    have e3 := ((Mq.refl a).mul e1).trans h1
    rw [Nat.mul_add] at e3
    refine Mq.add_cancel (c := hi / lo * lo) ?_
    refine Mq.trans ((Mq.refl _).add e2.symm) (e3.trans (Mq.of_eq ?_))
    have := Nat.div_add_mod hi lo
    rw [Nat.mul_comm] at this
    omega
  · rw [← hg, Nat.gcd_comm lo, ← Nat.gcd_rec, Nat.gcd_comm]
theorem Eu.stop {a m hi t s : Nat} (h : Eu a m hi 0 t s) (hm : 2 ≤ m) : Nat.gcd a m = hi ∧ (hi = 1 → invN a m = t) ∧ (hi ≠ 1 → invN a m = 0) := by
  have hg := h.hg
  rw [Nat.gcd_zero_right] at hg
  refine ⟨hg.symm, fun h1 => ?_, fun h1 => invN_gcd hm (by omega)⟩
  subst h1
  exact invN_eq h.ht h.hat

end Go.Proofs.Ytgefihgogfkjoaa
