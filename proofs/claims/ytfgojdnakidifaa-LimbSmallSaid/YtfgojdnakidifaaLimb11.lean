/-
  The statements' own words: within, Make.
-/
import Derived.Test.YtfgojdnakidifaaLimb10
set_option linter.unusedSimpArgs false
set_option linter.unusedVariables false
namespace Go.Proofs.Ytfgojdnakidifaa
open Go.Am

theorem within (x y : Int) (hy : 0 < y) (hy2 : y < 9223372036854775808) : ASpec Try.prog 21 [.int .i64 x, .int .i64 y] (.int .i64 (x % y)) := by
  refine ASpec.start 1000 Try.func21 (fn := Try.f21) rfl (by decide) mixed (by kernel_rfl) (by simp) ?_
  have h := tmod_within (x := x) hy
  have h1 := Int.emod_nonneg x (show y ≠ 0 by omega)
  have h2 := Int.emod_lt_of_pos x hy
  by_cases hc : x.tmod y < 0
  · rw [if_pos hc] at h
    simp (disch := omega) [ini, upd_eq, binA_remZ, hc, h, in_i64, resA_L Try.results21]
  · rw [if_neg hc] at h
    simp (disch := omega) [ini, upd_eq, binA_remZ, show ¬ x % y < 0 by omega, h, resA_L Try.results21]

theorem beqF {x y : Int} (h : ¬ x = y) : (x == y) = false := by simpa using h
theorem beqT {x y : Int} (h : x = y) : (x == y) = true := by simpa using h
theorem bneT {x y : Int} (h : ¬ x = y) : (x != y) = true := by simpa using h
theorem bneF {x y : Int} (h : x = y) : (x != y) = false := by simpa using h
def i64F (f : Nat → Int) (i : Nat) : AV := .int .i64 (f i)
theorem refsLts_i64F (m : Nat) (f : Nat → Int) (n : Nat) : refsLts m (famL (i64F f) n) = true := refsLts_famL fun _ _ => rfl
theorem noRefs_i64F (f : Nat → Int) (n : Nat) : noRefs (famL (i64F f) n) = true := noRefs_famL fun _ _ => rfl

/-- a number of limbs -/
def ofL (g : Nat → Nat) : Nat → Nat
  | 0 => 0
  | k + 1 => ofL g k + 2 ^ (32 * k) * g k
theorem ofL_lt {g : Nat → Nat} (hg : ∀ i, g i < 4294967296) : ∀ k, ofL g k < 2 ^ (32 * k)
  | 0 => by simp [ofL]
  | k + 1 => by
    have h := ofL_lt hg k
    have h1 := hg k
    rw [ofL, show 32 * (k + 1) = 32 * k + 32 by omega, Nat.pow_add, show (2 : Nat) ^ 32 = 4294967296 from rfl]
    have : 2 ^ (32 * k) * (g k + 1) ≤ 2 ^ (32 * k) * 4294967296 := Nat.mul_le_mul_left _ (by omega)
    rw [Nat.mul_add] at this
    omega
theorem limb_ofL {g : Nat → Nat} (hg : ∀ i, g i < 4294967296) : ∀ k i, i < k → limb (ofL g k) i = g i
  | 0, _, h => by omega
  | k + 1, i, h => by
    rw [ofL]
    rcases Nat.lt_or_ge i k with h1 | h1
    · rw [limb_below h1, limb_ofL hg k i h1]
    · obtain rfl : i = k := by omega
      rw [limb_def, Nat.add_mul_div_left _ _ (Nat.two_pow_pos _), Nat.div_eq_of_lt (ofL_lt hg i), Nat.zero_add]
      exact Nat.mod_eq_of_lt (hg i)
def lbF (g : Nat → Nat) (i : Nat) : AV := .int .u32 (g i : Nat)
theorem lbF_num {g : Nat → Nat} (hg : ∀ i, g i < 4294967296) : famL (lbF g) 8 = numL (ofL g 8) :=
  famL_congr fun i hi => by rw [limbA, limb_ofL hg 8 i hi]; rfl

theorem wrap32_nat (z : Int) : ∃ n : Nat, n < 4294967296 ∧ IntKind.u32.wrap z = n := by
  rw [w_u32]
  exact ⟨(z % 4294967296).toNat, by omega, by omega⟩
theorem mod_toNat (x : Int) {y : Int} (h : 0 < y) : ((x % y).toNat : Int) = x % y := by
  have := Int.emod_nonneg x (show y ≠ 0 by omega); omega
noncomputable def mkX (x : Int) : Nat := (bitsA .xor .u32 (IntKind.u32.wrap x) (IntKind.u32.wrap (IntKind.u32.wrap (x / 4294967296) * 7))).toNat
theorem mkX_spec (x : Int) : mkX x < 4294967296 ∧ bitsA .xor .u32 (IntKind.u32.wrap x) (IntKind.u32.wrap (IntKind.u32.wrap (x / 4294967296) * 7)) = (mkX x : Int) := by
  obtain ⟨n, h1, h2⟩ := wrap32_nat ((BitVec.ofInt IntKind.u32.bits (IntKind.u32.wrap x)) ^^^ (BitVec.ofInt IntKind.u32.bits (IntKind.u32.wrap (IntKind.u32.wrap (x / 4294967296) * 7)))).toNat
  have h3 : bitsA .xor .u32 (IntKind.u32.wrap x) (IntKind.u32.wrap (IntKind.u32.wrap (x / 4294967296) * 7)) = (n : Int) := h2
  unfold mkX
  rw [h3]
  simp [h1]
/-- a limb, of a number -/
noncomputable def mkl (x : Int) : Nat := if x % 7 = 0 then (IntKind.i64.wrap (x.tdiv 7) % 3).toNat else if x % 5 = 0 then 4294967295 - (IntKind.i64.wrap (x.tdiv 5) % 3).toNat else mkX x
theorem mkl_lt (x : Int) : mkl x < 4294967296 := by
  have := (mkX_spec x).1
  unfold mkl
  split
  · omega
  · split <;> omega
noncomputable def mkG (f : Nat → Int) (n j : Nat) : Nat := if j < n then mkl (f j) else 0
theorem mkG_lt (f : Nat → Int) (n j : Nat) : mkG f n j < 4294967296 := by
  have := mkl_lt (f j)
  unfold mkG
  split <;> omega
noncomputable def mkF (k : Int) (f : Nat → Int) (n j : Nat) : Nat :=
  if k % 6 = 0 then (if j < 1 then mkG f n j else 0) else if k % 6 = 1 then 4294967295 - mkG f n j else if k % 6 = 2 then (if j < 4 then mkG f n j else 0) else mkG f n j
theorem mkF_lt (k : Int) (f : Nat → Int) (n j : Nat) : mkF k f n j < 4294967296 := by
  have := mkG_lt f n j
  unfold mkF
  repeat' split
  all_goals omega
noncomputable def mkN (k : Int) (f : Nat → Int) (n : Nat) : Nat := ofL (mkF k f n) 8
theorem mkN_lt (k : Int) (f : Nat → Int) (n : Nat) : mkN k f n < W := ofL_lt (mkF_lt k f n) 8
theorem mkN_num (k : Int) (f : Nat → Int) (n : Nat) : famL (lbF (mkF k f n)) 8 = numL (mkN k f n) := lbF_num (mkF_lt k f n)

/-- noughts from c on -/
noncomputable def cutL (g : Nat → Nat) (c i : Nat) : List AV := famL (lbF fun j => if c ≤ j ∧ j < c + i then 0 else g j) 8
@[simp] theorem cutL_length (g : Nat → Nat) (c i : Nat) : (cutL g c i).length = 8 := by simp [cutL]
theorem cutL_set (g : Nat → Nat) (c i : Nat) : (cutL g c i).set (c + i) (.int .u32 0) = cutL g c (i + 1) := by
  rw [cutL, famL_set]
  refine famL_congr fun j _ => ?_
  unfold upd
  by_cases h1 : j = c + i
  · subst h1; simp [lbF, show c + i < c + (i + 1) by omega]
  · simp only [h1, if_false, lbF]
    by_cases h2 : c ≤ j ∧ j < c + i
    · rw [if_pos h2, if_pos (by omega)]
    · rw [if_neg h2, if_neg (by omega)]
theorem refsLts_cutL (m : Nat) (g : Nat → Nat) (c i : Nat) : refsLts m (cutL g c i) = true := refsLts_famL fun _ _ => rfl
theorem refsLts_lbF (m : Nat) (g : Nat → Nat) (n : Nat) : refsLts m (famL (lbF g) n) = true := refsLts_famL fun _ _ => rfl
theorem cutL_zero (g : Nat → Nat) (c : Nat) : cutL g c 0 = famL (lbF g) 8 := famL_congr fun j _ => by simp only [lbF]; rw [if_neg (by omega)]


theorem cutL_end (g : Nat → Nat) (c i : Nat) (h : c + i = 8) : cutL g c i = famL (lbF fun j => if j < c then g j else 0) 8 := by
  refine famL_congr fun j hj => ?_
  simp only [lbF]
  by_cases h1 : j < c
  · rw [if_neg (by omega), if_pos h1]
  · rw [if_pos (by omega), if_neg h1]
/-- what stands when i limbs are made -/
noncomputable def mkL (f : Nat → Int) (i : Nat) : List AV := famL (lbF (mkG f i)) 8
@[simp] theorem mkL_length (f : Nat → Int) (i : Nat) : (mkL f i).length = 8 := by simp [mkL]
theorem mkL_set (f : Nat → Int) (i : Nat) {v : Int} (hv : v = (mkl (f i) : Nat)) : (mkL f i).set i (.int .u32 v) = mkL f (i + 1) := by
  subst hv
  rw [mkL, famL_set]
  refine famL_congr fun j _ => ?_
  unfold upd
  by_cases h1 : j = i
  · subst h1; simp [lbF, mkG]
  · simp only [h1, if_false, lbF, mkG]
    by_cases h2 : j < i
    · rw [if_pos h2, if_pos (by omega)]
    · rw [if_neg h2, if_neg (by omega)]
theorem refsLts_mkL (m : Nat) (f : Nat → Int) (i : Nat) : refsLts m (mkL f i) = true := refsLts_famL fun _ _ => rfl
theorem mkL_zero (f : Nat → Int) : mkL f 0 = numL 0 := by
  rw [numL]
  exact famL_congr fun j _ => by simp [lbF, mkG, limbA, limb_def]
theorem mkL_all (f : Nat → Int) (n i : Nat) (h : i = min 8 n) : mkL f i = famL (lbF (mkG f n)) 8 :=
  famL_congr fun j hj => by
    simp only [lbF, mkG]
    by_cases h2 : j < n
    · rw [if_pos h2, if_pos (by omega)]
    · rw [if_neg h2, if_neg (by omega)]
end Go.Proofs.Ytfgojdnakidifaa
