/-
  Products: limb and the document.
-/
import Derived.Test.YtfgojdnakidifaaLimb6
set_option linter.unusedSimpArgs false
set_option linter.unusedVariables false
namespace Go.Proofs.Ytfgojdnakidifaa
open Go.Am

/-- What is carried at limb k of a * B + Y. -/
def mcar (a B Y k : Nat) : Nat := (a * (B % 2 ^ (32 * k)) + Y % 2 ^ (32 * k)) / 2 ^ (32 * k)
theorem mcar_zero (a B Y : Nat) : mcar a B Y 0 = 0 := by simp [mcar, Nat.mod_one]
theorem mcar_lt {a B Y k : Nat} (ha : a < 4294967296) : mcar a B Y k < 4294967296 := by
  unfold mcar
  have h0 : 0 < 2 ^ (32 * k) := Nat.two_pow_pos _
  have h1 := Nat.mod_lt B h0
  have h2 := Nat.mod_lt Y h0
  generalize 2 ^ (32 * k) = q at *
  apply Nat.div_lt_of_lt_mul
  have h3 : a * (B % q) ≤ 4294967295 * (q - 1) := Nat.mul_le_mul (by omega) (by omega)
  omega
theorem mcar_step (a B Y k : Nat) : a * limb B k + limb Y k + mcar a B Y k = limb (a * B + Y) k + 4294967296 * mcar a B Y (k + 1) := by
  have sum : ∀ j, a * (B % 2 ^ (32 * j)) + Y % 2 ^ (32 * j) = (a * B + Y) % 2 ^ (32 * j) + 2 ^ (32 * j) * mcar a B Y j := fun j => by
    have h := Nat.mod_add_div (a * (B % 2 ^ (32 * j)) + Y % 2 ^ (32 * j)) (2 ^ (32 * j))
    have e : (a * (B % 2 ^ (32 * j)) + Y % 2 ^ (32 * j)) % 2 ^ (32 * j) = (a * B + Y) % 2 ^ (32 * j) := by
      rw [Nat.add_mod, Nat.mul_mod, Nat.mod_mod, ← Nat.mul_mod, Nat.mod_mod, ← Nat.add_mod]
    rw [e] at h
    unfold mcar
    omega
  have h0 := sum k
  have h1 := sum (k + 1)
  rw [mod_step B k, mod_step Y k, mod_step (a * B + Y) k] at h1
  have hp : 2 ^ (32 * (k + 1)) = 2 ^ (32 * k) * 4294967296 := by rw [show 32 * (k + 1) = 32 * k + 32 by omega, Nat.pow_add]
  rw [hp] at h1
  have h2 : 0 < 2 ^ (32 * k) := Nat.two_pow_pos _
  generalize 2 ^ (32 * k) = q at *
  have : q * (a * limb B k + limb Y k + mcar a B Y k) = q * (limb (a * B + Y) k + 4294967296 * mcar a B Y (k + 1)) := by
    rw [Nat.mul_add, Nat.mul_add, Nat.mul_add, ← Nat.mul_assoc q 4294967296]
    rw [Nat.mul_add, ← Nat.mul_assoc a q, Nat.mul_comm a q, Nat.mul_assoc q a] at h1
    omega
  exact Nat.eq_of_mul_eq_mul_left h2 this

/-- The product of the first i limbs. -/
def pp (A B i : Nat) : Nat := A % 2 ^ (32 * i) * B
theorem pp_step (A B i : Nat) : pp A B (i + 1) = pp A B i + 2 ^ (32 * i) * (limb A i * B) := by
  unfold pp
  rw [mod_step, Nat.add_mul, Nat.mul_assoc]
theorem limb_up (N i k : Nat) : limb N (i + k) = limb (N / 2 ^ (32 * i)) k := by
  simp only [limb_def]
  rw [Nat.div_div_eq_div_mul, ← Nat.pow_add, Nat.mul_add]
theorem pp_div (A B i : Nat) : pp A B (i + 1) / 2 ^ (32 * i) = limb A i * B + pp A B i / 2 ^ (32 * i) := by
  rw [pp_step, Nat.add_mul_div_left _ _ (Nat.two_pow_pos _), Nat.add_comm]
theorem limb_below {M N i j : Nat} (h : j < i) : limb (M + 2 ^ (32 * i) * N) j = limb M j := by
  simp only [limb_def]
  have : 2 ^ (32 * i) = 2 ^ (32 * j) * (2 ^ 32 * 2 ^ (32 * (i - j - 1))) := by
    rw [← Nat.pow_add, ← Nat.pow_add]; congr 1; omega
  rw [this, Nat.mul_assoc, Nat.add_mul_div_left _ _ (Nat.two_pow_pos _), Nat.mul_assoc, Nat.add_mul_mod_self_left]
theorem pp_lt {A B i : Nat} (hB : B < W) : pp A B i < 2 ^ (32 * (i + 8)) := by
  unfold pp
  rw [Nat.mul_add, Nat.pow_add]
  exact Nat.mul_lt_mul_of_lt_of_le (Nat.mod_lt _ (Nat.two_pow_pos _)) (Nat.le_of_lt hB) W_pos
theorem limb_none {N i j : Nat} (h : N < 2 ^ (32 * i)) (hj : i ≤ j) : limb N j = 0 := by
  rw [limb_def, Nat.div_eq_of_lt (Nat.lt_of_lt_of_le h (Nat.pow_le_pow_right (by decide) (by omega)))]
theorem pp_last {A B i : Nat} (hB : B < W) : mcar (limb A i) B (pp A B i / 2 ^ (32 * i)) 8 = limb (pp A B (i + 1)) (i + 8) := by
  rw [limb_up, pp_div]
  have hY : pp A B i / 2 ^ (32 * i) < W := by
    apply Nat.div_lt_of_lt_mul
    have := pp_lt (A := A) (i := i) hB
    rwa [Nat.mul_add, Nat.pow_add] at this
  have hc := mcar_lt (a := limb A i) (B := B) (Y := pp A B i / 2 ^ (32 * i)) (k := 8) (limb_lt _ _)
  unfold mcar at *
  rw [show 2 ^ (32 * 8) = W from rfl] at *
  rw [Nat.mod_eq_of_lt hB, Nat.mod_eq_of_lt hY] at *
  rw [limb_def (_ + _), show 2 ^ (32 * 8) = W from rfl, Nat.mod_eq_of_lt hc]

/-- The array as it stands at i, k. -/
noncomputable def mulL (A B i k : Nat) : List AV := mixL (limbA (pp A B (i + 1))) (limbA (pp A B i)) 16 (i + k)
@[simp] theorem mulL_length (A B i k : Nat) : (mulL A B i k).length = 16 := by simp [mulL]
@[simp] theorem refsLts_mulL (m A B i k : Nat) : refsLts m (mulL A B i k) = true := refsLts_mixL (fun _ => rfl) (fun _ => rfl)
noncomputable def wide (N : Nat) : List AV := famL (limbA N) 16
@[simp] theorem wide_length (N : Nat) : (wide N).length = 16 := by simp [wide]
@[simp] theorem refsLts_wide (m N : Nat) : refsLts m (wide N) = true := refsLts_famL fun _ _ => rfl
theorem wide_zero {A B : Nat} : famL (fun _ => AV.int .u32 0) 16 = wide (pp A B 0) := famL_congr fun i _ => by simp [pp, Nat.mod_one, limbA, limb_def]
theorem mulL_zero (A B i : Nat) : mulL A B i 0 = wide (pp A B i) := by
  refine famL_congr fun j _ => ?_
  by_cases h : j < i
  · simp only [Nat.add_zero, h, if_true, pp_step, limbA, limb_below h]
  · simp [h]
theorem mulL_get {A B i k : Nat} (hi : i < 8) (hk : k < 8) : (mulL A B i k)[i + k]? = some (limbA (pp A B i / 2 ^ (32 * i)) k) := by
  rw [mulL, mixL_get (by omega), limbA, limb_up, limbA]
theorem mulL_set {A B i k : Nat} {v : AV} (hv : v = limbA (limb A i * B + pp A B i / 2 ^ (32 * i)) k) : (mulL A B i k).set (i + k) v = mulL A B i (k + 1) := by
  rw [mulL, mixL_set]
  · rfl
  · rw [hv, limbA, limbA, limb_up, pp_div]
theorem mulL_last {A B i : Nat} (hB : B < W) : (mulL A B i 8).set (i + 8) (.int .u32 (mcar (limb A i) B (pp A B i / 2 ^ (32 * i)) 8 : Nat)) = wide (pp A B (i + 1)) := by
  rw [mulL, mixL_set (by rw [pp_last hB]; rfl)]
  refine famL_congr fun j hj => ?_
  by_cases h : j < i + 8 + 1
  · simp [h]
  · simp only [h, if_false, limbA]
    rw [limb_none (pp_lt hB) (show i + 8 ≤ j by omega), limb_none (pp_lt (i := i + 1) hB) (show i + 1 + 8 ≤ j by omega)]
theorem pp_all {A : Nat} (hA : A < W) (B : Nat) : pp A B 8 = A * B := by
  unfold pp
  rw [show 2 ^ (32 * 8) = W from rfl, Nat.mod_eq_of_lt hA]
theorem wide_lo (N : Nat) : (wide N).take 8 = numL N := famL_take (by decide)
theorem wide_hi (N : Nat) : (wide N).drop 8 = numL (N / W) := by
  rw [wide, famL_drop]
  exact famL_congr fun j _ => by rw [limbA, limb_up, limbA]; rfl

theorem copy_num {bk : Nat → Option Blk} {nt id id' off s b e eb M N : Nat} {a ea f f' : Bool} {z w : List AV} (hb : bk id = some ⟨numL M, f⟩) (hs : bk id' = some ⟨w, f'⟩) (hw : off + 8 ≤ w.length) (he : (w.drop off).take 8 = numL N) :
    copyA ⟨s, b, a, z, .slice e 1 ea eb⟩ ⟨bk, nt⟩ (.sl id 0 1 8) (.sl id' off 1 8) = some (.int .i64 8, ⟨upd bk id (some ⟨numL N, f⟩), nt⟩) := by
  have hsrc : srcA 1 ⟨bk, nt⟩ (.sl id' off 1 8) = some (8, numL N) := by
    simp [srcA, hs, hw, he]
  rw [copy_all hb (by simp) hsrc (Nat.le_refl _) (leaf_numL N)]
  have : (numL N).take (8 * 1) = numL N := List.take_of_length_le (by simp)
  simp [this, List.drop_of_length_le]
theorem mul (A B : Nat) (hA : A < W) (hB : B < W) : ASpec Try.prog 23 [num A, num B] (.tup [num (A * B % W), num (A * B / W)]) := by
  rw [num_mod]
  refine ASpec.start 1000 Try.func23 (fn := Try.f23) rfl (by decide) mixed (by kernel_rfl) (by simp) ?_
  simp (disch := omega) [ini, upd_eq, tyNum, tyWide]
  refine goT_count (fun i => [(2, .ptr 0 0), (3, .ptr 1 0), (4, .ptr 2 0), (5, .ptr 3 0), (6, .ptr 4 0), (13, num A), (14, .int .i64 (i : Nat))])
    (fun i => [(0, ⟨numL A, true⟩), (1, ⟨numL B, true⟩), (2, ⟨numL 0, true⟩), (3, ⟨numL 0, true⟩), (4, ⟨wide (pp A B i), true⟩)]) 5 8 ?_ ?_ ?_
  · intro i hi IH
    refine goT_round mixed 100 ?_
    simp (disch := omega) [st_eq, upd_eq, tyNum, show (i : Int) < 8 by omega, numL_get hi]
    refine goT_count (fun k => [(2, .ptr 0 0), (3, .ptr 1 0), (4, .ptr 2 0), (5, .ptr 3 0), (6, .ptr 4 0), (13, num A), (14, .int .i64 (i : Nat)), (7, .int .i64 (i : Nat)), (8, limbA A i), (9, .int .u64 (mcar (limb A i) B (pp A B i / 2 ^ (32 * i)) k : Nat)), (18, num B), (19, .int .i64 (k : Nat))])
      (fun k => [(0, ⟨numL A, true⟩), (1, ⟨numL B, true⟩), (2, ⟨numL 0, true⟩), (3, ⟨numL 0, true⟩), (4, ⟨mulL A B i k, true⟩)]) 5 8 ?_ ?_ ?_
    · intro k hk IH'
      refine goT_round mixed 100 ?_
      have hs := mcar_step (limb A i) B (pp A B i / 2 ^ (32 * i)) k
      have hc := mcar_lt (a := limb A i) (B := B) (Y := pp A B i / 2 ^ (32 * i)) (k := k) (limb_lt _ _)
      have hc1 := mcar_lt (a := limb A i) (B := B) (Y := pp A B i / 2 ^ (32 * i)) (k := k + 1) (limb_lt _ _)
      have hg := mulL_get (A := A) (B := B) hi hk
      have hset := mulL_set (A := A) (B := B) (i := i) (k := k) rfl
      have ha := limb_lt A i
      have hb := limb_lt B k
      have hy := limb_lt (pp A B i / 2 ^ (32 * i)) k
      have ht := limb_lt (limb A i * B + pp A B i / 2 ^ (32 * i)) k
      have hm : limb A i * limb B k ≤ 4294967295 * 4294967295 := Nat.mul_le_mul (by omega) (by omega)
      have e0 : (limb A i : Int) * limb B k = (limb A i * limb B k : Nat) := rfl
      generalize limb A i * limb B k = m at *
      have e1 : ((m : Int) + limb (pp A B i / 2 ^ (32 * i)) k + mcar (limb A i) B (pp A B i / 2 ^ (32 * i)) k) % 4294967296 = limb (limb A i * B + pp A B i / 2 ^ (32 * i)) k := by omega
      have e2 : ((m : Int) + limb (pp A B i / 2 ^ (32 * i)) k + mcar (limb A i) B (pp A B i / 2 ^ (32 * i)) k) / 4294967296 = mcar (limb A i) B (pp A B i / 2 ^ (32 * i)) (k + 1) := by omega
      have e3 : ((i : Int) + k).toNat = i + k := by omega
      simp (disch := omega) [st_eq, upd_eq, tyNum, tyU32, tyU64, tyWide, show (k : Int) < 8 by omega, numL_get hk, limbA_def, in_u64, in_i64, w_u32, binA_shr, e0, e3, hg, show (i : Int) + k < 16 by omega, show 0 ≤ (i : Int) + k by omega, show i + k < 16 by omega, e1, e2, store_int]
      refine IH' _ ⟨?_, ?_⟩
      · simp [upd_eq, refsLt, limbA_def]
      · simp [upd_eq]
        exact hset
    · refine goT_round mixed 100 ?_
      have hc := mcar_lt (a := limb A i) (B := B) (Y := pp A B i / 2 ^ (32 * i)) (k := 8) (limb_lt _ _)
      have hset := mulL_last (A := A) (B := B) (i := i) hB
      have e3 : ((i : Int) + 8).toNat = i + 8 := by omega
      simp (disch := omega) [st_eq, upd_eq, tyNum, tyU32, tyU64, tyWide, in_u32, in_i64, e3, show (i : Int) + 8 < 16 by omega, show 0 ≤ (i : Int) + 8 by omega, show i + 8 < 16 by omega, store_int, hset]
      exact IH _ ⟨by simp [upd_eq, refsLt], by simp [upd_eq]⟩
    · exact ⟨by simp [upd_eq, refsLt, limbA_def, mcar_zero], by simp [upd_eq, mulL_zero]⟩
  · refine goT_round mixed 100 ?_
    rw [pp_all hA]
    simp (disch := omega) [st_eq, upd_eq, tyNum, tyWide]
    have hlo := wide_lo (A * B)
    have hhi := wide_hi (A * B)
    rw [tyU32s, Option.bind_some, copy_num (M := 0) (N := A * B) (f := true) (f' := true) (w := wide (A * B)) (by simp) (by simp) (by simp) (by simp [hlo])]
    simp (disch := omega) [upd_eq, tyNum, tyWide, winA_mid]
    rw [tyU32s, Option.bind_some, copy_num (M := 0) (N := A * B / W) (f := true) (f' := true) (w := wide (A * B)) (by simp [upd_eq]) (by simp [upd_eq]) (by simp) (by rw [hhi]; exact List.take_of_length_le (by simp))]
    simp (disch := omega) [upd_eq, tyNum, resA_L Try.results23]
  · exact ⟨by simp [upd_eq, refsLt], by simp [upd_eq, wide_zero (A := A) (B := B)]⟩
end Go.Proofs.Ytfgojdnakidifaa
