/-
  MontB: Mont9, Mont10, Mont11, Mont12
-/
import Derived.Test.YtlpeloenigdfdaaMontA
set_option linter.unusedSimpArgs false
set_option linter.unusedVariables false
/-! Contracts of mont: out, powers; a number divided; a difference. -/
namespace Go.Proofs.Ytlpeloenigdfdaa
open Go.Am

theorem out_ {M R T a : Nat} (ha : a < W) (hm : M < W) (ho : M % 2 = 1) (haM : a ≤ M * (W - 1)) : ASpec Try.prog 21 [mont M R T (negN M), num a] (num (redc M a)) := by
  refine ASpec.start 1000 Try.func21 (fn := Try.f21) rfl (by decide) mixed (by kernel_rfl) (by simp) ?_
  have h0W' := W_big
  simp (disch := omega) [ini, upd_eq, tyNum, tyMont]
  refine callT_of (fromN 1 (by omega)) rfl rfl ?_
  simp (disch := omega) [upd_eq, tyNum, tyMont]
  have hlt : a * 1 < M * W := by
    have h1 : M * (W - 1) + M = M * W := by rw [← Nat.mul_succ]; congr 1
    omega
  have s := mmul (R := R) (T := T) ha (show 1 < W by omega) hm ho (neg_mod ho) (negN_lt M) hlt
  rw [Nat.mul_one] at s
  refine callT_of s rfl rfl ?_
  simp (disch := omega) [upd_eq, tyNum, resA_L Try.results21]
theorem out_mm {M R T a : Nat} (hm : M < W) (ho : M % 2 = 1) : ASpec Try.prog 21 [mont M R T (negN M), num (mm M a)] (num (a % M)) := by
  have h0W' := W_big
  have h1 := mm_lt ho a
  have h2 : M * 1 ≤ M * (W - 1) := Nat.mul_le_mul_left _ (by omega)
  have := out_ (R := R) (T := T) (show mm M a < W by omega) hm ho (by omega)
  rw [show redc M (mm M a) = a % M by have := mm_out ho a; rwa [Nat.mul_one] at this] at this
  exact this
theorem mmul_mm {M R T a b : Nat} (hm : M < W) (ho : M % 2 = 1) : ASpec Try.prog 23 [mont M R T (negN M), num (mm M a), num (mm M b)] (num (mm M (a * b))) := by
  have h1 := mm_lt ho a
  have h2 := mm_lt ho b
  have := mmul (R := R) (T := T) (A := mm M a) (B := mm M b) (by omega) (by omega) hm ho (neg_mod ho) (negN_lt M) (Nat.mul_lt_mul_of_lt_of_le h1 (by omega) (by omega))
  rwa [mm_mul ho] at this

theorem low_pow (a e i : Nat) : a ^ (e % 2 ^ (i + 1)) = a ^ (e % 2 ^ i) * (if bitN e i = 1 then a ^ 2 ^ i else 1) := by
  have h : e % 2 ^ (i + 1) = e % 2 ^ i + 2 ^ i * bitN e i := by
    rw [Nat.pow_succ, Nat.mod_mul]; rfl
  rw [h, Nat.pow_add]
  have hb := bitN_le e i
  rcases (by omega : bitN e i = 0 ∨ bitN e i = 1) with h1 | h1 <;> simp [h1]
theorem pow_ {M a e : Nat} {T : Nat} (ha : a < W) (he : e < W) (hm : M < W) (ho : M % 2 = 1) : ASpec Try.prog 26 [mont M (W % M) T (negN M), num a, num e] (num (a ^ e % M)) := by
  refine ASpec.start 1000 Try.func26 (fn := Try.f26) rfl (by decide) mixed (by kernel_rfl) (by simp) ?_
  have h0W' := W_big
  simp (disch := omega) [ini, upd_eq, tyNum, tyMont]
  refine callT_of (in_ ha hm (by omega)) rfl rfl ?_
  simp (disch := omega) [upd_eq, tyNum, tyMont, tyPair]
  refine callT_of (bits e he) rfl rfl ?_
  have hb256 := blen_le (n := e) (k := 256) he
  have hR : W % M = mm M 1 := by rw [mm, Nat.one_mul]
  rw [hR]
  simp (disch := omega) [upd_eq, tyNum]
  refine goT_count (fun i => [(3, .ptr 0 0), (5, .ptr 2 0), (6, .ptr 3 0), (7, .ptr 4 0), (16, .int .i64 (blen e : Nat)), (17, .int .i64 (i : Nat))])
    (fun i => [(0, ⟨montL M (mm M 1) T (negN M), true⟩), (2, ⟨numL e, true⟩), (3, ⟨numL 0, true⟩), (4, ⟨pairL (mm M (a ^ (e % 2 ^ i))) (mm M (a ^ 2 ^ i)), true⟩)]) 5 (blen e) ?_ ?_ ?_
  · intro i hi IH
    refine goT_round mixed 100 ?_
    have hq : i / 32 < 8 := by omega
    have e1 : ((i : Int) / 32).toNat = i / 32 := by omega
    have e2 : ((i : Int) % 32).toNat = i % 32 := by omega
    have e3 : min (i % 32) 32 = i % 32 := by omega
    have hbi := bitN_le e i
    have hlp := low_pow a e i
    have hsq : a ^ 2 ^ i * a ^ 2 ^ i = a ^ 2 ^ (i + 1) := by rw [← Nat.pow_add, Nat.pow_succ, Nat.mul_two]
    by_cases hb : bitN e i = 1
    · rw [if_pos hb] at hlp
      simp (disch := omega) [st_eq, upd_eq, show (i : Int) < blen e by omega, tyNum, tyU32, tyInt, tyUint, tyMont, tyPair, in_u64, binA_quo, binA_rem, binA_shr, in_i64, e1, e2, e3, numL_get hq, limbA_def, bit_eq, show (i : Int) / 32 < 8 by omega, show 0 ≤ (i : Int) / 32 by omega, hb]
      refine callT_of (mmul_mm hm ho) rfl rfl ?_
      rw [← hlp]
      simp (disch := omega) [upd_eq, tyNum, tyMont, tyPair]
      refine callT_of (mmul_mm hm ho) rfl rfl ?_
      rw [hsq]
      simp (disch := omega) [upd_eq, tyNum, tyMont, tyPair, in_i64]
      exact IH _ ⟨by simp [upd_eq, refsLt], by simp [upd_eq]⟩
    · rw [if_neg hb, Nat.mul_one] at hlp
      rw [hlp] at IH
      simp (disch := omega) [st_eq, upd_eq, show (i : Int) < blen e by omega, tyNum, tyU32, tyInt, tyUint, tyMont, tyPair, in_u64, binA_quo, binA_rem, binA_shr, in_i64, e1, e2, e3, numL_get hq, limbA_def, bit_eq, show (i : Int) / 32 < 8 by omega, show 0 ≤ (i : Int) / 32 by omega, show bitN e i = 0 by omega]
      refine callT_of (mmul_mm hm ho) rfl rfl ?_
      rw [hsq]
      simp (disch := omega) [upd_eq, tyNum, tyMont, tyPair, in_i64]
      exact IH _ ⟨by simp [upd_eq, refsLt], by simp [upd_eq]⟩
  · refine goT_round mixed 100 ?_
    have hlt : e < 2 ^ blen e := by
      have := blen_top e
      rcases Nat.lt_or_ge e (2 ^ blen e) with h | h
      · exact h
      · have := Nat.div_pos h (Nat.two_pow_pos _); omega
    rw [Nat.mod_eq_of_lt hlt]
    simp (disch := omega) [st_eq, upd_eq, tyNum, tyMont, tyPair]
    refine callT_of (out_mm hm ho) rfl rfl ?_
    simp (disch := omega) [upd_eq, tyNum, resA_L Try.results26]
  · exact ⟨by simp [upd_eq, refsLt], by simp [upd_eq, Nat.mod_one]⟩

/-- A bit put under what has nothing there. -/
theorem put_bit {P q j : Nat} (hj : j < 32) (hP : P % 2 ^ (32 * q + j + 1) = 0) :
    limb P q ||| 2 ^ j = limb (P + 2 ^ (32 * q + j)) q ∧ ∀ i, i ≠ q → limb (P + 2 ^ (32 * q + j)) i = limb P i := by
  have hr : 2 ^ j < 2 ^ (j + 1) := by have := Nat.two_pow_pos j; rw [Nat.pow_succ]; omega
  have hsum : P + 2 ^ (32 * q + j) = P + 2 ^ (32 * q) * 2 ^ j := by rw [Nat.pow_add]
  have hp2 := Nat.two_pow_pos (32 * q)
  have hq0 : P / 2 ^ (32 * q) % 2 ^ (j + 1) = 0 := by
    rw [← Nat.mod_mul_right_div_self, ← Nat.pow_add, ← Nat.add_assoc, hP, Nat.zero_div]
  have hdiv : (P + 2 ^ (32 * q) * 2 ^ j) / 2 ^ (32 * q) = P / 2 ^ (32 * q) + 2 ^ j := Nat.add_mul_div_left _ _ hp2
  generalize hr' : 2 ^ j = r at *
  rw [hsum]
  have h32 : (2 : Nat) ^ 32 = 2 ^ (j + 1) * 2 ^ (31 - j) := by rw [← Nat.pow_add]; congr 1; omega
  have hT := Nat.two_pow_pos (j + 1)
  have hhi : (P / 2 ^ (32 * q) + r) / 2 ^ 32 = P / 2 ^ (32 * q) / 2 ^ 32 := by
    rw [h32, ← Nat.div_div_eq_div_mul, ← Nat.div_div_eq_div_mul]
    congr 1
    have h1 := Nat.div_add_mod (P / 2 ^ (32 * q)) (2 ^ (j + 1))
    rw [hq0, Nat.add_zero] at h1
    rw [← h1, Nat.mul_add_div hT, Nat.div_eq_of_lt hr, Nat.mul_div_cancel_left _ hT]
    rfl
  refine ⟨?_, fun i hi => ?_⟩
  · rw [limb_def, limb_def, hdiv]
    have hm : P / 2 ^ (32 * q) % 2 ^ 32 % 2 ^ (j + 1) = 0 := by
      rw [h32, Nat.mod_mul_right_mod, hq0]
    rw [or_add hm hr]
    have h1 := Nat.div_add_mod (P / 2 ^ (32 * q)) (2 ^ 32)
    have h2 := Nat.div_add_mod (P / 2 ^ (32 * q) + r) (2 ^ 32)
    rw [hhi] at h2
    omega
  · rcases Nat.lt_or_gt_of_ne hi with h | h
    · exact limb_below h
    · simp only [limb_def]
      congr 1
      have e : 2 ^ (32 * i) = 2 ^ (32 * q) * (2 ^ 32 * 2 ^ (32 * (i - q - 1))) := by
        rw [← Nat.pow_add, ← Nat.pow_add]; congr 1; omega
      rw [e, ← Nat.div_div_eq_div_mul, hdiv, ← Nat.div_div_eq_div_mul, hhi, ← Nat.div_div_eq_div_mul, ← Nat.div_div_eq_div_mul]
theorem put_bit_set {P i : Nat} {v : Int} (hP : P % 2 ^ (i + 1) = 0) (hv : v = ((limb P (i / 32) ||| 2 ^ (i % 32) : Nat) : Int)) :
    (numL P).set (i / 32) (.int .u32 v) = numL (P + 2 ^ i) := by
  have hi : 32 * (i / 32) + i % 32 = i := by omega
  obtain ⟨h1, h2⟩ := put_bit (P := P) (q := i / 32) (j := i % 32) (Nat.mod_lt _ (by decide)) (by rw [hi]; exact hP)
  rw [hi] at h1 h2
  subst hv
  unfold numL
  rw [famL_set]
  refine famL_congr fun k _ => ?_
  unfold upd
  by_cases h : k = i / 32
  · subst h; simp only [if_true, limbA, h1]
  · simp only [h, if_false, limbA, h2 k h]
/-- what is reckoned of a quotient when bits i and up are seen -/
def quo (a m i : Nat) : Nat := a / 2 ^ i / m * 2 ^ i
theorem quo_step {a m i v : Nat} (hm : 0 < m) (hv : v = 2 * (a / 2 ^ (i + 1) % m) + bitN a i) : quo a m i = quo a m (i + 1) + (if v < m then 0 else 2 ^ i) := by
  have h2 : a / 2 ^ i = 2 * (a / 2 ^ (i + 1)) + bitN a i := by
    unfold bitN
    rw [Nat.pow_succ, ← Nat.div_div_eq_div_mul]
    omega
  have h3 := Nat.div_add_mod (a / 2 ^ (i + 1)) m
  have h1 := Nat.mod_lt (a / 2 ^ (i + 1)) hm
  have hb := bitN_le a i
  unfold quo
  have h4 : a / 2 ^ i / m = 2 * (a / 2 ^ (i + 1) / m) + (if v < m then 0 else 1) := by
    rw [h2]
    generalize a / 2 ^ (i + 1) = q at *
    have e : 2 * q + bitN a i = v + m * (2 * (q / m)) := by
      rw [hv, Nat.mul_left_comm]; omega
    rw [e, Nat.add_mul_div_left _ _ hm]
    split
    · rename_i h; rw [Nat.div_eq_of_lt h]; omega
    · rename_i h
      have : v / m = 1 := Nat.div_eq_of_lt_le (by omega) (by omega)
      omega
  rw [h4, Nat.add_mul, Nat.pow_succ, Nat.mul_assoc 2, Nat.mul_comm 2, Nat.mul_assoc]
  split <;> simp
theorem quo_mod (a m i : Nat) : quo a m (i + 1) % 2 ^ (i + 1) = 0 := Nat.mul_mod_left _ _
theorem quo_zero (a m : Nat) : quo a m 0 = a / m := by simp [quo]
theorem quo_le (a m i : Nat) : quo a m i ≤ a := by
  unfold quo
  have h1 : a / 2 ^ i / m ≤ a / 2 ^ i := Nat.div_le_self _ _
  exact Nat.le_trans (Nat.mul_le_mul_right _ h1) (Nat.div_mul_le_self _ _)
end Go.Proofs.Ytlpeloenigdfdaa

/-! Contracts of mont and of the document: a number divided, a difference. -/
namespace Go.Proofs.Ytlpeloenigdfdaa
open Go.Am

theorem minus {a b m : Nat} (ha : a < m) (hb : b < m) (hm : m < W) : ASpec Try.prog 48 [num a, num b, num m] (num (if a < b then a + m - b else a - b)) := by
  refine ASpec.start 1000 Try.func48 (fn := Try.f48) rfl (by decide) mixed (by kernel_rfl) (by simp) ?_
  simp (disch := omega) [ini, upd_eq, tyNum]
  have s1 := sub a b (by omega) (by omega)
  have hd : (a + W - b) % W = if a < b then a + W - b else a - b := by
    split
    · exact Nat.mod_eq_of_lt (by omega)
    · rw [show a + W - b = a - b + W by omega, Nat.add_mod_right, Nat.mod_eq_of_lt (by omega)]
  rw [hd] at s1
  have hdW : (if a < b then a + W - b else a - b) < W := by split <;> omega
  have s2 := add _ m hdW hm
  obtain ⟨l, hl⟩ : ∃ l : Nat, l = if a < b then 1 else 0 := ⟨_, rfl⟩
  rw [← hl] at s1
  obtain ⟨D, hD⟩ : ∃ D, D = if a < b then a + W - b else a - b := ⟨_, rfl⟩
  rw [← hD] at s1 s2 hdW
  refine callT_of s1 rfl rfl ?_
  simp (disch := omega) [upd_eq, tyNum]
  refine callT_of s2 rfl rfl ?_
  simp (disch := omega) [upd_eq, tyNum]
  refine callT_of (pick l _ D) rfl rfl ?_
  have hr : (if l = 0 then D else (D + m) % W) = if a < b then a + m - b else a - b := by
    by_cases h : a < b
    · rw [if_pos h] at hl hD ⊢
      rw [if_neg (by omega), hD, show a + W - b + m = a + m - b + W by omega, Nat.add_mod_right, Nat.mod_eq_of_lt (by omega)]
    · rw [if_neg h] at hl hD ⊢
      rw [if_pos hl, hD]
  rw [hr]
  simp (disch := omega) [upd_eq, tyNum, resA_L Try.results48]

theorem low_or {A b v : Nat} (hb : b < 2) (hv : v = 2 * A + b) : (numL (2 * A)).set 0 (.int .u32 (bitsA .or .u32 (limb (2 * A) 0 : Nat) (b : Nat))) = numL v := by
  subst hv
  refine numL_low hb ?_
  rw [bor32 (limb_lt _ _) (by omega), or_low hb]
theorem top31 {R : Nat} (hR : R < W) : limb R 7 / 2147483648 = 2 * R / W := by
  have hW : W = 2 ^ (32 * 7) * 4294967296 := rfl
  rw [limb_def, show (2 : Nat) ^ 32 = 4294967296 from rfl]
  have h1 : R / 2 ^ (32 * 7) < 4294967296 := Nat.div_lt_of_lt_mul (by rw [← hW]; exact hR)
  rw [Nat.mod_eq_of_lt h1, Nat.div_div_eq_div_mul, hW, show 2 ^ (32 * 7) * 4294967296 = 2 * (2 ^ (32 * 7) * 2147483648) by omega, Nat.mul_div_mul_left _ _ (show 0 < 2 by decide)]

set_option maxHeartbeats 2000000 in
set_option maxRecDepth 16000 in
theorem divided {a m : Nat} (ha : a < W) (hm : m < W) (h0 : m ≠ 0) : ASpec Try.prog 47 [num a, num m] (pairA (a / m) (a % m)) := by
  refine ASpec.start 1000 Try.func47 (fn := Try.f47) rfl (by decide) mixed (by kernel_rfl) (by simp) ?_
  have h0W' := W_big
  simp (disch := omega) [ini, upd_eq, tyNum, tyPair]
  refine callT_of (bits a ha) rfl rfl ?_
  have hb256 := blen_le (n := a) (k := 256) ha
  have hw : IntKind.i64.wrap ((blen a : Int) - 1) = (blen a : Int) - 1 := in_i64 (by omega) (by omega)
  simp (disch := omega) [upd_eq, tyNum, hw]
  refine goT_down (X := Nat) (fun i => i) (fun i => [(2, .ptr 0 0), (3, .ptr 1 0), (4, .ptr 2 0), (5, .ptr 3 0), (6, .int .i64 ((i : Int) - 1))])
    (fun i => [(0, ⟨numL a, true⟩), (1, ⟨numL m, true⟩), (2, ⟨pairL 0 0, true⟩), (3, ⟨pairL (quo a m i) (a / 2 ^ i % m), true⟩)]) 4
    (fun i => i ≤ 256) ?_ (blen a) hb256 ⟨by simp [upd_eq, refsLt], by simp [upd_eq, quo, blen_top]⟩
  intro i hi' IH
  refine goT_round mixed 100 ?_
  cases i with
  | zero =>
    simp (disch := omega) [st_eq, upd_eq, tyPair, quo_zero, resA_L Try.results47]
  | succ i =>
    have hb := bitN_le a i
    obtain ⟨hv2, hstep⟩ := rest_step (X := a) (m := m) (i := i) (by omega) rfl
    have hquo := quo_step (a := a) (m := m) (i := i) (by omega) rfl
    have hqm := quo_mod a m i
    have hr := Nat.mod_lt (a / 2 ^ (i + 1)) (show 0 < m by omega)
    have hIH := IH i
    generalize hR : a / 2 ^ (i + 1) % m = R at *
    have hov : 2 * R / W = (2 * R + bitN a i) / W := over_eq hb
    have hlow : (numL (2 * R)).set 0 (.int .u32 (bitsA .or .u32 (limb (2 * R) 0 : Nat) (bitN a i : Nat))) = numL (2 * R + bitN a i) := low_or hb rfl
    generalize hV : 2 * R + bitN a i = v at *
    have s1 := add R R (by omega) (by omega)
    rw [num_mod, show R + R = 2 * R by omega, hov] at s1
    have htop := top31 (R := R) (by omega)
    rw [hov] at htop
    have hq31 : ((limb R 7 : Int) / 2147483648) = ((v / W : Nat) : Int) := by rw [← htop]; exact (Int.natCast_ediv _ _).symm
    have hvW : v % W < W := Nat.mod_lt _ W_pos
    have s2 := sub (v % W) m hvW hm
    rw [num_mod v] at s2
    have hvq : v / W < 2 := Nat.div_lt_of_lt_mul (by omega)
    have hvdm := Nat.div_add_mod v W
    have hq : i / 32 < 8 := by omega
    have e1 : ((i : Int) / 32).toNat = i / 32 := by omega
    have e2 : ((i : Int) % 32).toNat = i % 32 := by omega
    have e3 : min (i % 32) 32 = i % 32 := by omega
    have hpairlow : (pairL (quo a m (i + 1)) (2 * R)).set 8 (.int .u32 (bitsA .or .u32 (limb (2 * R) 0 : Nat) (bitN a i : Nat))) = pairL (quo a m (i + 1)) v := by
      rw [pairL, List.set_append_right _ _ (by simp), numL_length, hlow]; rfl
    have hg7 : (pairL (quo a m (i + 1)) R)[15]? = some (.int .u32 (limb R 7 : Nat)) := rfl
    have hg8 : (pairL (quo a m (i + 1)) (2 * R))[8]? = some (.int .u32 (limb (2 * R) 0 : Nat)) := rfl
    generalize hvw : v / W = o at *
    simp (disch := omega) [st_eq, upd_eq, tyNum, tyPair, tyU32, hg7, binA_shr, hq31]
    refine callT_of s1 rfl rfl ?_
    simp (disch := omega) [upd_eq, tyNum, tyPair, tyU32, tyInt, hg8, binA_quo, binA_rem, binA_shr, in_i64, e1, e2, e3, numL_get hq, limbA_def, bit_eq, show (i : Int) / 32 < 8 by omega, show 0 ≤ (i : Int) / 32 by omega, store_int, hpairlow]
    refine callT_of s2 rfl rfl ?_
    by_cases hlt : v < m
    · have ho : o = 0 := by rw [← hvw]; exact Nat.div_eq_of_lt (by omega)
      have hvm : v % W = v := Nat.mod_eq_of_lt (by omega)
      rw [if_pos hlt] at hstep hquo
      rw [Nat.add_zero] at hquo
      simp (disch := omega) [upd_eq, tyNum, tyPair, ho, hvm, hlt, in_i64]
      exact hIH _ (by omega) (by omega) ⟨by simp [upd_eq, refsLt], by simp [upd_eq, hstep, hquo]⟩
    · have hval := rest_sub hm hv2 hlt
      rw [if_neg hlt] at hstep hquo
      have hp := Nat.two_pow_pos (i % 32)
      have hp2 : 2 ^ (i % 32) < 4294967296 := Nat.pow_lt_pow_right (show 1 < 2 by decide) (Nat.mod_lt i (show 0 < 32 by decide))
      have hgq : (pairL (quo a m (i + 1)) (v - m))[i / 32]? = some (.int .u32 (limb (quo a m (i + 1)) (i / 32) : Nat)) := by
        rw [pairL, List.getElem?_append_left (by simpa using hq), numL_get hq]; rfl
      have hsetq : (pairL (quo a m (i + 1)) (v - m)).set (i / 32) (.int .u32 (bitsA .or .u32 (limb (quo a m (i + 1)) (i / 32) : Nat) ((2 ^ (i % 32) : Nat) : Int))) = pairL (quo a m i) (v - m) := by
        rw [pairL, List.set_append_left _ _ (by simpa using hq), put_bit_set hqm (bor32 (limb_lt _ _) hp2), ← hquo]; rfl
      have ecast : (2 : Int) ^ (i % 32) = ((2 ^ (i % 32) : Nat) : Int) := by simp
      have hsh : IntKind.u32.wrap (2 ^ (i % 32)) = 2 ^ (i % 32) := by rw [ecast]; exact in_u32 (by omega) (by omega)
      rw [← ecast] at hsetq
      rcases (by omega : o = 0 ∨ o = 1) with ho | ho
      case' inl => have hnl : ¬ v % W < m := by rw [ho] at hvdm; omega
      case' inl => simp (disch := omega) [upd_eq, tyNum, tyPair, ho, hval, hnl]
      case' inr => simp (disch := omega) [upd_eq, tyNum, tyPair, ho, hval]
      all_goals
        simp (disch := omega) [upd_eq, tyNum, tyPair, tyU32, tyInt, binA_quo, binA_rem, binA_shl, in_i64, e1, e2, e3, show (i : Int) / 32 < 8 by omega, show 0 ≤ (i : Int) / 32 by omega, hgq, hsh, store_int, show i / 32 < 16 by omega, hsetq]
        exact hIH _ (by omega) (by omega) ⟨by simp [upd_eq, refsLt], by simp [upd_eq, hstep]⟩
end Go.Proofs.Ytlpeloenigdfdaa

/-! The document's quotient. -/
namespace Go.Proofs.Ytlpeloenigdfdaa
open Go.Am

set_option maxHeartbeats 2000000 in
set_option maxRecDepth 16000 in
theorem quotient {a m : Nat} (ha : a < W) (hm : m < W) (h0 : m ≠ 0) : ASpec Try.prog 49 [num a, num m] (.tup [num (a / m), num (a % m)]) := by
  refine ASpec.startX [11] 1000 Try.func49 (fn := Try.f49) rfl (by decide) mixed (by kernel_rfl) (by simp) ?_
  have h0W' := W_big
  simp (disch := omega) [ini, upd_eq, tyNum]
  have htop : a / 2 ^ 256 = 0 := Nat.div_eq_of_lt ha
  refine goT_down (X := Nat) (fun i => i) (fun i => [(2, .ptr 0 0), (3, .ptr 1 0), (4, .ptr 2 0), (5, .ptr 3 0), (6, .ptr 4 0), (7, .ptr 5 0), (8, .int .i64 ((i : Int) - 1))])
    (fun i => [(0, ⟨numL a, true⟩), (1, ⟨numL m, true⟩), (2, ⟨numL 0, true⟩), (3, ⟨numL 0, true⟩), (4, ⟨numL (quo a m i), true⟩), (5, ⟨numL (a / 2 ^ i % m), true⟩)]) 6
    (fun i => i ≤ 256) ?_ 256 (Nat.le_refl _) ⟨by simp [upd_eq, refsLt], by rw [quo, htop]; simp [upd_eq]⟩
  intro i hi' IH
  refine goT_round mixed 100 ?_
  cases i with
  | zero =>
    rw [quo_zero, Nat.pow_zero, Nat.div_one]
    simp (disch := omega) [st_eq, upd_eq]
    refine goT_region2 mixed [(7, 4)] 100 (by kernel_rfl) ?_
    simp (disch := omega) [upd_eq, tyNum]
    refine ⟨by simp [dynOk, ptrNe, upd_eq], ?_⟩
    simp (disch := omega) [upd_eq, tyNum, resA_L Try.results49]
  | succ i =>
    have hb := bitN_le a i
    obtain ⟨hv2, hstep⟩ := rest_step (X := a) (m := m) (i := i) (by omega) rfl
    have hquo := quo_step (a := a) (m := m) (i := i) (by omega) rfl
    have hqm := quo_mod a m i
    have hr := Nat.mod_lt (a / 2 ^ (i + 1)) (show 0 < m by omega)
    have hIH := IH i
    generalize hR : a / 2 ^ (i + 1) % m = R at *
    have hov : 2 * R / W = (2 * R + bitN a i) / W := over_eq hb
    have hlow : (numL (2 * R)).set 0 (.int .u32 (bitsA .or .u32 (limb (2 * R) 0 : Nat) (bitN a i : Nat))) = numL (2 * R + bitN a i) := low_or hb rfl
    generalize hV : 2 * R + bitN a i = v at *
    have s1 := radd R R (by omega) (by omega)
    rw [num_mod, show R + R = 2 * R by omega, hov] at s1
    have hvW : v % W < W := Nat.mod_lt _ W_pos
    have s2 := rsub (v % W) m hvW hm
    rw [num_mod v] at s2
    have hvq : v / W < 2 := Nat.div_lt_of_lt_mul (by omega)
    have hvdm := Nat.div_add_mod v W
    have hq : i / 32 < 8 := by omega
    have e1 : ((i : Int) / 32).toNat = i / 32 := by omega
    have e2 : ((i : Int) % 32).toNat = i % 32 := by omega
    have e3 : min (i % 32) 32 = i % 32 := by omega
    generalize hvw : v / W = o at *
    simp (disch := omega) [st_eq, upd_eq, tyNum]
    refine callT_of s1 rfl rfl ?_
    simp (disch := omega) [upd_eq, tyNum, tyU32, tyInt, tyUint, in_u64, numL_get, binA_quo, binA_rem, binA_shr, in_i64, e1, e2, e3, numL_get hq, limbA_def, bit_eq, show (i : Int) / 32 < 8 by omega, show 0 ≤ (i : Int) / 32 by omega, store_int, hlow]
    by_cases hlt : v < m
    · have ho : o = 0 := by rw [← hvw]; exact Nat.div_eq_of_lt (by omega)
      rw [if_pos hlt] at hstep hquo
      rw [Nat.add_zero] at hquo
      have hc : cmpZ v m = -1 := by simp [cmpZ, hlt]
      simp (disch := omega) [upd_eq, tyNum, ho]
      refine callT_of (rcmp v m (by omega) hm) rfl rfl ?_
      simp (disch := omega) [upd_eq, tyNum, hc, in_i64]
      exact hIH _ (by omega) (by omega) ⟨by simp [upd_eq, refsLt], by simp [upd_eq, hstep, hquo]⟩
    · have hval := rest_sub hm hv2 hlt
      rw [if_neg hlt] at hstep hquo
      have hp := Nat.two_pow_pos (i % 32)
      have hp2 : 2 ^ (i % 32) < 4294967296 := Nat.pow_lt_pow_right (show 1 < 2 by decide) (Nat.mod_lt i (show 0 < 32 by decide))
      have hsetq : (numL (quo a m (i + 1))).set (i / 32) (.int .u32 (bitsA .or .u32 (limb (quo a m (i + 1)) (i / 32) : Nat) ((2 ^ (i % 32) : Nat) : Int))) = numL (quo a m i) := by
        rw [put_bit_set hqm (bor32 (limb_lt _ _) hp2), ← hquo]
      have ecast : (2 : Int) ^ (i % 32) = ((2 ^ (i % 32) : Nat) : Int) := by simp
      have hsh : IntKind.u32.wrap (2 ^ (i % 32)) = 2 ^ (i % 32) := by rw [ecast]; exact in_u32 (by omega) (by omega)
      rw [← ecast] at hsetq
      rw [hval] at s2
      rcases (by omega : o = 0 ∨ o = 1) with ho | ho
      case' inl => have hvl : v < W := by rw [ho] at hvdm; omega
      case' inl => have hc : cmpZ v m ≥ 0 := by unfold cmpZ; rw [if_neg hlt]; split <;> omega
      case' inl => simp (disch := omega) [upd_eq, tyNum, ho]
      case' inl => refine callT_of (rcmp v m hvl hm) rfl rfl ?_
      case' inl => simp (disch := omega) [upd_eq, tyNum, hc]
      case' inr => simp (disch := omega) [upd_eq, tyNum, ho]
      all_goals
        refine callT_of s2 rfl rfl ?_
        simp (disch := omega) [upd_eq, tyNum, tyU32, tyInt, tyUint, in_u64, binA_quo, binA_rem, binA_shl, in_i64, e1, e2, e3, show (i : Int) / 32 < 8 by omega, show 0 ≤ (i : Int) / 32 by omega, numL_get hq, limbA_def, hsh, store_int, hq, hsetq]
        exact hIH _ (by omega) (by omega) ⟨by simp [upd_eq, refsLt], by simp [upd_eq, hstep]⟩
end Go.Proofs.Ytlpeloenigdfdaa

/-! Inverses: mont and the document. -/
namespace Go.Proofs.Ytlpeloenigdfdaa
open Go.Am

@[simp] theorem vc_zero {P : Program} {fn : FnE} {k : List Item} {σ : AS} {r : AV} {t1 t2 t3} : vcT P fn 0 k r t1 t2 t3 σ = goT P fn k r ⟨⟩ ⟨⟩ ⟨⟩ σ := (rfl)

theorem fieldP0 {A B : Nat} : fieldA ⟨16, 64, true, pairL 0 0, .struct pairF⟩ 0 (pairA A B) = some (num A) := rfl
theorem fieldP1 {A B : Nat} : fieldA ⟨16, 64, true, pairL 0 0, .struct pairF⟩ 1 (pairA A B) = some (num B) := rfl
/-- where Euclid stands -/
structure Eu (a m hi lo t s : Nat) : Prop where
  ht : t < m
  hs : s < m
  hhi : hi ≤ m
  hlo : lo < m
  hat : Mq m (a * t) hi
  has : Mq m (a * s) lo
  hg : Nat.gcd hi lo = Nat.gcd a m
theorem Eu.start {a m : Nat} (hm : 2 ≤ m) : Eu a m m (a % m) 0 1 :=
  ⟨by omega, by omega, Nat.le_refl _, Nat.mod_lt _ (by omega), by rw [Nat.mul_zero]; unfold Mq; simp, by rw [Nat.mul_one]; exact (Mq.mod a).symm, by
    rw [Nat.gcd_comm m, ← Nat.gcd_rec, Nat.gcd_comm]⟩
theorem Eu.step {a m hi lo t s : Nat} (h : Eu a m hi lo t s) (h0 : lo ≠ 0) : Eu a m lo (hi % lo) s (if t < hi / lo * s % m then t + m - hi / lo * s % m else t - hi / lo * s % m) := by
  obtain ⟨ht, hs, hhi, hlo, h1, h2, hg⟩ := h
  have hq := Nat.mod_lt (hi / lo * s) (show 0 < m by omega)
  have hr := Nat.mod_lt hi (show 0 < lo by omega)
  refine ⟨hs, by split <;> omega, by omega, by omega, h2, ?_, ?_⟩
  · have e1 : Mq m ((if t < hi / lo * s % m then t + m - hi / lo * s % m else t - hi / lo * s % m) + hi / lo * s % m) t := by
      split
      · rw [show t + m - hi / lo * s % m + hi / lo * s % m = t + m * 1 by omega]; exact Mq.add_mul
      · exact Mq.of_eq (by omega)
    have e2 : Mq m (a * (hi / lo * s % m)) (hi / lo * lo) := by
      refine ((Mq.refl a).mul (Mq.mod _)).trans ?_
      rw [Nat.mul_left_comm]
      exact (Mq.refl _).mul h2
    have e3 := ((Mq.refl a).mul e1).trans h1
    rw [Nat.mul_add] at e3
    refine Mq.add_cancel (c := hi / lo * lo) ?_
    refine Mq.trans ((Mq.refl _).add e2.symm) (e3.trans (Mq.of_eq ?_))
    have := Nat.div_add_mod hi lo
    rw [Nat.mul_comm] at this
    omega
  · rw [← hg, Nat.gcd_comm lo, ← Nat.gcd_rec, Nat.gcd_comm]
theorem Eu.stop {a m hi t s : Nat} (h : Eu a m hi 0 t s) (hm : 2 ≤ m) : Nat.gcd a m = hi ∧ (hi = 1 → invN a m = t) ∧ (hi ≠ 1 → invN a m = 0) := by
  have hg := h.hg
  rw [Nat.gcd_zero_right] at hg
  refine ⟨hg.symm, fun h1 => ?_, fun h1 => invN_gcd hm (by omega)⟩
  subst h1
  exact invN_eq h.ht h.hat

set_option maxHeartbeats 2000000 in
set_option maxRecDepth 16000 in
theorem inverse {a m : Nat} (ha : a < W) (hm : m < W) : ASpec Try.prog 29 [num a, num m] (.tup [num (invN a m), .bool (decide (2 ≤ m ∧ Nat.gcd a m = 1))]) := by
  refine ASpec.start 16 Try.func29 (fn := Try.f29) rfl (by decide) mixed (by kernel_rfl) (by simp) ?_
  have h0W' := W_big
  simp (disch := omega) [ini, upd_eq, tyNum]
  refine callT_of (fromN 1 (by omega)) rfl rfl ?_
  simp (disch := omega) [upd_eq, tyNum]
  refine callT_of (cmp m 1 hm (by omega)) rfl rfl ?_
  by_cases hm2 : m < 2
  · have hi : invN a m = 0 := by
      rcases (by omega : m = 0 ∨ m = 1) with rfl | rfl
      · exact invN_none fun ⟨z, hz, _⟩ => by omega
      · exact invN_eq (z := 0) (by omega) (by unfold Mq; omega)
    have hc : cmpZ m 1 ≤ 0 := by unfold cmpZ; split; omega; split <;> omega
    have hd : decide (2 ≤ m ∧ Nat.gcd a m = 1) = false := decide_eq_false fun h => by omega
    simp (disch := omega) [upd_eq, tyNum, hc, hi, hd, resA_L Try.results29]
  have hc : ¬ cmpZ m 1 ≤ 0 := by unfold cmpZ; rw [if_neg (by omega), if_pos (by omega)]; decide
  simp (disch := omega) [upd_eq, tyNum, hc]
  refine callT_of (divided ha hm (by omega)) rfl rfl ?_
  simp (disch := omega) [upd_eq, tyNum, tyPair, fieldP1]
  refine goT_down (X := Nat × Nat × Nat × Nat) (fun x => x.2.1) (fun x => [(3, .ptr 1 0), (4, .ptr 2 0), (6, .ptr 3 0), (7, .ptr 4 0), (8, .ptr 5 0)])
    (fun x => [(1, ⟨numL m, true⟩), (2, ⟨numL 0, true⟩), (3, ⟨numL 1, true⟩), (4, ⟨pairL x.1 x.2.1, true⟩), (5, ⟨pairL x.2.2.1 x.2.2.2, true⟩)]) 6
    (fun x => Eu a m x.1 x.2.1 x.2.2.1 x.2.2.2) ?_ (m, a % m, 0, 1) (Eu.start (by omega)) ⟨by simp [upd_eq, refsLt], by simp [upd_eq]⟩
  rintro ⟨hi, lo, t, s⟩ hE IH
  simp only at hE ⊢
  have hE' := hE
  obtain ⟨ht, hs, hhi, hlo, h1, h2, hg⟩ := hE
  refine goT_run mixed 200 ?_
  by_cases hl0 : lo = 0
  · subst hl0
    obtain ⟨g1, g2, g3⟩ := hE'.stop (by omega)
    simp (disch := omega) [st_eq, upd_eq, tyNum, tyPair, neq_num]
    by_cases h1 : hi = 1
    · have hd : decide (2 ≤ m ∧ Nat.gcd a m = 1) = true := decide_eq_true ⟨by omega, by omega⟩
      simp (disch := omega) [upd_eq, tyNum, tyPair, neq_num, h1, g2 h1, hd, resA_L Try.results29]
    · have hd : decide (2 ≤ m ∧ Nat.gcd a m = 1) = false := decide_eq_false (fun h => by omega)
      simp (disch := omega) [upd_eq, tyNum, tyPair, neq_num, h1, g3 h1, hd, resA_L Try.results29]
  · have hst := hE'.step hl0
    simp (disch := omega) [st_eq, upd_eq, tyNum, tyPair, neq_num, hl0]
    refine callT_of (divided (show hi < W by omega) (show lo < W by omega) hl0) rfl rfl ?_
    simp (disch := omega) [upd_eq, tyNum, tyPair]
    have hqW : hi / lo < W := Nat.lt_of_le_of_lt (Nat.div_le_self _ _) (by omega)
    have hsW : s < W := by omega
    obtain ⟨L, H, hL, hH, hLH, s2⟩ : ∃ L H, L < W ∧ H < W ∧ H * W + L = hi / lo * s ∧ ASpec Try.prog 37 [num (hi / lo), num s] (.tup [num L, num H]) := by
      refine ⟨_, _, Nat.mod_lt _ W_pos, ?_, ?_, mul (hi / lo) s hqW hsW⟩
      · exact Nat.div_lt_of_lt_mul (Nat.mul_lt_mul_of_lt_of_le hqW (Nat.le_of_lt hsW) W_pos)
      · rw [Nat.mul_comm]; exact Nat.div_add_mod _ _
    refine callT_of s2 rfl rfl ?_
    simp (disch := omega) [upd_eq, tyNum, tyPair]
    have s3 := restN_ hL hH hm (show m ≠ 0 by omega)
    rw [hLH] at s3
    refine callT_of s3 rfl rfl ?_
    simp (disch := omega) [upd_eq, tyNum, tyPair]
    have hq := Nat.mod_lt (hi / lo * s) (show 0 < m by omega)
    generalize hQ : hi / lo * s % m = q at *
    refine callT_of (minus ht hq hm) rfl rfl ?_
    generalize (if t < q then t + m - q else t - q) = u at *
    simp (disch := omega) [upd_eq, tyNum, tyPair, exitT, gotoIn, findLabel, bindV]
    refine goT_run mixed 2 ?_
    simp only [vc_seq, vc_skip, vc_zero]
    exact IH (lo, hi % lo, s, u) _ hst (Nat.mod_lt hi (by omega)) ⟨by simp [upd_eq, refsLt], by simp [upd_eq]⟩

set_option maxHeartbeats 2000000 in
set_option maxRecDepth 16000 in
theorem rinverse {a m : Nat} (ha : a < W) (hm : m < W) : ASpec Try.prog 30 [num a, num m] (.tup [num (invN a m), .bool (decide (2 ≤ m ∧ Nat.gcd a m = 1))]) := by
  refine ASpec.startX [12] 1000 Try.func30 (fn := Try.f30) rfl (by decide) mixed (by kernel_rfl) (by simp) ?_
  have h0W : 0 < W := W_pos
  have h0W' := W_big
  simp (disch := omega) [ini, upd_eq, tyNum]
  refine callT_of (rfromN 2 (by omega)) rfl rfl ?_
  simp (disch := omega) [upd_eq, tyNum]
  refine callT_of (rcmp m 2 hm (by omega)) rfl rfl ?_
  by_cases hm2 : m < 2
  · have hi : invN a m = 0 := by
      rcases (by omega : m = 0 ∨ m = 1) with rfl | rfl
      · exact invN_none fun ⟨z, hz, _⟩ => by omega
      · exact invN_eq (z := 0) (by omega) (by unfold Mq; omega)
    have hc : cmpZ m 2 < 0 := by unfold cmpZ; rw [if_pos hm2]; decide
    have hd : decide (2 ≤ m ∧ Nat.gcd a m = 1) = false := decide_eq_false fun h => by omega
    simp (disch := omega) [upd_eq, tyNum, hc, hi, hd, resA_L Try.results30]
  have hc : ¬ cmpZ m 2 < 0 := by unfold cmpZ; rw [if_neg hm2]; split <;> decide
  simp (disch := omega) [upd_eq, tyNum, hc]
  have s1 := rrestN (lo := a) (hi := 0) ha h0W hm (show m ≠ 0 by omega)
  rw [Nat.zero_mul, Nat.zero_add] at s1
  refine callT_of s1 rfl rfl ?_
  simp (disch := omega) [upd_eq, tyNum]
  refine callT_of (rfromN 1 (by omega)) rfl rfl ?_
  simp (disch := omega) [upd_eq, tyNum]
  refine goT_down (X := Nat × Nat × Nat × Nat) (fun x => x.2.1) (fun x => [(3, .ptr 1 0), (4, .ptr 2 0), (6, .ptr 3 0), (8, .ptr 4 0), (9, .ptr 5 0), (10, .ptr 6 0)])
    (fun x => [(1, ⟨numL m, true⟩), (2, ⟨numL 0, true⟩), (3, ⟨numL x.2.1, true⟩), (4, ⟨numL x.1, true⟩), (5, ⟨numL x.2.2.2, true⟩), (6, ⟨numL x.2.2.1, true⟩)]) 7
    (fun x => Eu a m x.1 x.2.1 x.2.2.1 x.2.2.2) ?_ (m, a % m, 0, 1) (Eu.start (by omega)) ⟨by simp [upd_eq, refsLt], by simp [upd_eq]⟩
  rintro ⟨hi, lo, t, s⟩ hE IH
  simp only at hE ⊢
  have hE' := hE
  obtain ⟨ht, hs, hhi, hlo, h1, h2, hg⟩ := hE
  refine goT_round mixed 200 ?_
  by_cases hl0 : lo = 0
  · subst hl0
    obtain ⟨g1, g2, g3⟩ := hE'.stop (by omega)
    simp (disch := omega) [st_eq, upd_eq, tyNum, neq_num]
    refine callT_of (rfromN 1 (by omega)) rfl rfl ?_
    by_cases h1 : hi = 1
    · have hd : decide (2 ≤ m ∧ Nat.gcd a m = 1) = true := decide_eq_true ⟨by omega, by omega⟩
      simp (disch := omega) [upd_eq, tyNum, neq_num, h1, g2 h1, hd, resA_L Try.results30]
    · have hd : decide (2 ≤ m ∧ Nat.gcd a m = 1) = false := decide_eq_false (fun h => by omega)
      simp (disch := omega) [upd_eq, tyNum, neq_num, h1, g3 h1, hd, resA_L Try.results30]
  · have hst := hE'.step hl0
    simp (disch := omega) [st_eq, upd_eq, tyNum, neq_num, hl0]
    refine callT_of (quotient (show hi < W by omega) (show lo < W by omega) hl0) rfl rfl ?_
    simp (disch := omega) [upd_eq, tyNum]
    have hqW : hi / lo < W := Nat.lt_of_le_of_lt (Nat.div_le_self _ _) (by omega)
    refine callT_of (rby hqW (show s < W by omega) hm (by omega)) rfl rfl ?_
    simp (disch := omega) [upd_eq, tyNum]
    have hq := Nat.mod_lt (hi / lo * s) (show 0 < m by omega)
    generalize hQ : hi / lo * s % m = q at *
    have s3 := rsub t q (by omega) (by omega)
    have hr := Nat.mod_lt hi (show 0 < lo by omega)
    by_cases htq : t < q
    · rw [if_pos htq, Nat.mod_eq_of_lt (by omega)] at s3
      rw [if_pos htq] at hst
      refine callT_of s3 rfl rfl ?_
      have s4 := radd (t + W - q) m (by omega) hm
      rw [show t + W - q + m = t + m - q + W by omega, Nat.add_mod_right, Nat.mod_eq_of_lt (by omega)] at s4
      simp (disch := omega) [upd_eq, tyNum]
      refine callT_of s4 rfl rfl ?_
      simp (disch := omega) [upd_eq, tyNum]
      refine goT_region2 mixed [(12, 8), (9, 8), (14, 8), (9, 6), (14, 6), (14, 10)] 100 (by kernel_rfl) ?_
      simp (disch := omega) [upd_eq, tyNum]
      refine ⟨by simp [dynOk, ptrNe, upd_eq], ?_⟩
      exact IH (lo, hi % lo, s, t + m - q) _ hst hr ⟨by simp [upd_eq, refsLt], by simp [upd_eq]⟩
    · rw [if_neg htq, show t + W - q = t - q + W by omega, Nat.add_mod_right, Nat.mod_eq_of_lt (by omega)] at s3
      rw [if_neg htq] at hst
      refine callT_of s3 rfl rfl ?_
      simp (disch := omega) [upd_eq, tyNum]
      refine goT_region2 mixed [(12, 8), (9, 8), (14, 8), (9, 6), (14, 6), (14, 10)] 100 (by kernel_rfl) ?_
      simp (disch := omega) [upd_eq, tyNum]
      refine ⟨by simp [dynOk, ptrNe, upd_eq], ?_⟩
      exact IH (lo, hi % lo, s, t - q) _ hst hr ⟨by simp [upd_eq, refsLt], by simp [upd_eq]⟩
end Go.Proofs.Ytlpeloenigdfdaa
