/-
  Numbers held against one another; the document's number twice.
-/
import Derived.Test.YtfgojdnakidifaaLimb4
set_option linter.unusedSimpArgs false
set_option linter.unusedVariables false
namespace Go.Proofs.Ytfgojdnakidifaa
open Go.Am

theorem ext_limb {A B : Nat} (hA : A < W) (hB : B < W) (h : ∀ i, i < 8 → limb A i = limb B i) : A = B := by
  have key : ∀ i, i ≤ 8 → A % 2 ^ (32 * i) = B % 2 ^ (32 * i) := by
    intro i
    induction i with
    | zero => intro _; simp [Nat.mod_one]
    | succ i ih => intro hi; rw [mod_step, mod_step, ih (by omega), h i (by omega)]
  have h8 := key 8 (Nat.le_refl _)
  rwa [show 2 ^ (32 * 8) = W from rfl, Nat.mod_eq_of_lt hA, Nat.mod_eq_of_lt hB] at h8
theorem eqCells_map {k : IntKind} (x y : Nat → Nat) : ∀ l : List Nat, eqCells (l.map fun i => .int k (x i : Nat)) (l.map fun i => .int k (y i : Nat)) = some (l.all fun i => x i == y i)
  | [] => rfl
  | a :: l => by
    simp only [List.map_cons, eqCells, eqCells_map x y l, eqCell, List.all_cons]
    have : ((x a : Int) == (y a : Int)) = (x a == y a) := by
      rw [Bool.eq_iff_iff]
      simp only [beq_iff_eq]
      omega
    simp [this]
theorem aggNum : aggT Try.prog 27 = true := by kernel_rfl
theorem kindsNum (A : Nat) : kindsOk (List.replicate 8 (.i .u32)) (numL A) = true := rfl
theorem eqA_num {A B : Nat} (hA : A < W) (hB : B < W) : eqA Try.prog 27 (numL A) (numL B) = some (decide (A = B)) := by
  unfold eqA
  rw [eqkNum]
  simp only [kindsNum, aggNum, and_self, if_true]
  have := eqCells_map (k := .u32) (limb A) (limb B) (List.range 8)
  rw [show numL A = (List.range 8).map fun i => .int .u32 (limb A i : Nat) from rfl, show numL B = (List.range 8).map fun i => .int .u32 (limb B i : Nat) from rfl, this]
  congr 1
  rw [Bool.eq_iff_iff]
  simp only [List.all_eq_true, List.mem_range, beq_iff_eq, decide_eq_true_eq]
  exact ⟨fun h => ext_limb hA hB h, fun h => by subst h; exact fun _ _ => rfl⟩
theorem eql_num {A B : Nat} (hA : A < W) (hB : B < W) : binA Try.prog .eql 27 (num A) (num B) = some (.bool (decide (A = B))) := by
  simp only [binA, num, eqA_num hA hB]
theorem neq_num {A B : Nat} (hA : A < W) (hB : B < W) : binA Try.prog .neq 27 (num A) (num B) = some (.bool (decide (A ≠ B))) := by
  simp only [binA, num, eqA_num hA hB, decide_not]

theorem or_low {A b : Nat} (hb : b < 2) : limb (2 * A) 0 ||| b = limb (2 * A + b) 0 := by
  have e1 : limb (2 * A) 0 = 2 ^ 1 * (A % 2147483648) := by simp [limb_def]; omega
  have e2 : limb (2 * A + b) 0 = 2 ^ 1 * (A % 2147483648) + b := by simp [limb_def]; omega
  rw [e1, e2, Nat.two_pow_add_eq_or_of_lt (by simpa using hb)]
theorem limb_low {A b i : Nat} (hb : b < 2) (hi : 0 < i) : limb (2 * A + b) i = limb (2 * A) i := by
  simp only [limb_def]
  obtain ⟨k, hk⟩ : ∃ k, 32 * i = k + 1 := ⟨32 * i - 1, by omega⟩
  rw [hk, Nat.pow_succ, Nat.mul_comm (2 ^ k) 2, ← Nat.div_div_eq_div_mul, ← Nat.div_div_eq_div_mul, show (2 * A + b) / 2 = A by omega, show 2 * A / 2 = A by omega]
theorem numL_low {A b : Nat} {v : Int} (hb : b < 2) (hv : v = limb (2 * A + b) 0) : (numL (2 * A)).set 0 (.int .u32 v) = numL (2 * A + b) := by
  subst hv
  unfold numL
  rw [famL_set]
  refine famL_congr fun i _ => ?_
  unfold upd
  by_cases h : i = 0
  · subst h; simp [limbA]
  · simp [h, limbA, limb_low hb (show 0 < i by omega)]

theorem twice (A b : Nat) (hA : A < W) (hb : b < 2) : ASpec Try.prog 44 [num A, .int .u32 (b : Nat)] (.tup [num ((2 * A + b) % W), .int .u32 (2 * A / W : Nat)]) := by
  refine ASpec.start 1000 Try.func44 (fn := Try.f44) rfl (by decide) mixed (by kernel_rfl) (by simp) ?_
  simp (disch := omega) [ini, upd_eq, tyNum]
  refine callT_of (radd A A hA hA) rfl rfl ?_
  rw [num_mod, num_mod, show A + A = 2 * A by omega]
  have hl := limb_lt (2 * A) 0
  have hs := numL_low (A := A) hb rfl
  have ho := bor32 hl (show b < 4294967296 by omega)
  rw [or_low hb] at ho
  simp (disch := omega) [upd_eq, tyNum, tyU32, numL_get, limbA_def, ho, hs, store_int, segA_all, resA_L Try.results44]
end Go.Proofs.Ytfgojdnakidifaa
