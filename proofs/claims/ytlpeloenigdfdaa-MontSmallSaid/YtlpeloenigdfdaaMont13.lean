/-
  The statements of mont: the chapter's example; what a modulus is made to.
-/
import Derived.Test.YtlpeloenigdfdaaMontB
set_option linter.unusedSimpArgs false
set_option linter.unusedVariables false
namespace Go.Proofs.Ytlpeloenigdfdaa
open Go.Am

theorem eqkMont : eqK Try.prog 29 = some (List.replicate 25 (.i .u32)) := by kernel_rfl
theorem aggMont : aggT Try.prog 29 = true := by kernel_rfl
def isIntA : AV → Bool
  | .int _ _ => true
  | _ => false
theorem eqCells_self : ∀ (l : List AV), l.all isIntA = true → eqCells l l = some true
  | [], _ => rfl
  | a :: l, h => by
    simp only [List.all_cons, Bool.and_eq_true] at h
    have ih := eqCells_self l h.2
    have he : eqCell a a = some true := by
      have h1 := h.1
      cases a <;> first
        | (exact absurd (show false = true from h1) (by decide))
        | simp [eqCell]
    simp [eqCells, he, ih]
theorem eql_mont (M R T N : Nat) : binA Try.prog .eql 29 (mont M R T N) (mont M R T N) = some (.bool true) := by
  have hk : kindsOk (List.replicate 25 (.i .u32)) (montL M R T N) = true := rfl
  have : eqA Try.prog 29 (montL M R T N) (montL M R T N) = some true := by
    unfold eqA
    rw [eqkMont]
    simp only [hk, aggMont, and_self, if_true]
    exact eqCells_self _ rfl
  simp only [binA, mont, this]

set_option maxHeartbeats 2000000 in
set_option maxRecDepth 16000 in
theorem known2 : ASpec Try.prog 12 [] (.bool true) := by
  refine ASpec.start 1000 Try.func12 (fn := Try.f12) rfl (by decide) mixed (by kernel_rfl) (by simp) ?_
  have h0W := W_big
  have hr : ∀ n, n < 100 → ASpec Try.prog 27 [.int .i64 (n : Nat)] (num n) := fun n h => rfromN n (by omega)
  simp (disch := omega) [ini, upd_eq, tyNum]
  refine callT_of (hr 7 (by decide)) rfl rfl ?_
  simp (disch := omega) [upd_eq, tyNum]
  refine callT_of (make_mont (m := 7) (by omega) (by decide) (by decide)) rfl (by simp [noRef, noRefs, mkM]) ?_
  simp (disch := omega) [upd_eq, tyNum, tyMont, mkM]
  refine callT_of (hr 8 (by decide)) rfl rfl ?_
  simp (disch := omega) [upd_eq, tyNum]
  refine callT_of (make_none (m := 8) (by omega) (by decide)) rfl (by simp [noRef, noRefs]) ?_
  simp (disch := omega) [upd_eq, tyNum, tyMont]
  refine callT_of (hr 3 (by decide)) rfl rfl ?_
  simp (disch := omega) [upd_eq, tyNum]
  refine callT_of (hr 7 (by decide)) rfl rfl ?_
  simp (disch := omega) [upd_eq, tyNum]
  have s1 := inverse (a := 3) (m := 7) (by omega) (by omega)
  rw [invN_eq (a := 3) (m := 7) (z := 5) (by decide) (by unfold Mq; decide), show decide (2 ≤ 7 ∧ Nat.gcd 3 7 = 1) = true by decide] at s1
  refine callT_of s1 rfl rfl ?_
  simp (disch := omega) [upd_eq, tyNum, tyMont]
  refine callT_of (hr 3 (by decide)) rfl rfl ?_
  simp (disch := omega) [upd_eq, tyNum]
  refine callT_of (hr 4 (by decide)) rfl rfl ?_
  simp (disch := omega) [upd_eq, tyNum]
  refine callT_of (pow_ (M := 7) (a := 3) (e := 4) (by omega) (by omega) (by omega) (by decide)) rfl rfl ?_
  simp (disch := omega) [upd_eq, tyNum]
  refine callT_of (hr 4 (by decide)) rfl rfl ?_
  simp (disch := omega) [upd_eq, tyNum, eql_num]
  refine callT_of (hr 5 (by decide)) rfl rfl ?_
  simp (disch := omega) [upd_eq, tyNum, tyMont, eql_num]
  refine callT_of (hr 5 (by decide)) rfl rfl ?_
  simp (disch := omega) [upd_eq, tyNum, tyMont]
  refine callT_of (in_ (M := 7) (a := 5) (by omega) (by omega) (by decide)) rfl rfl ?_
  simp (disch := omega) [upd_eq, tyNum, tyMont]
  refine callT_of (out_mm (M := 7) (a := 5) (by omega) (by decide)) rfl rfl ?_
  simp (disch := omega) [upd_eq, tyNum, tyMont]
  refine callT_of (hr 5 (by decide)) rfl rfl ?_
  simp (disch := omega) [upd_eq, tyNum, eql_num, resA_L Try.results12]

set_option maxHeartbeats 2000000 in
set_option maxRecDepth 16000 in
theorem law_MontMakes (a : Int) (f : Nat → Int) (n : Nat) : ASpec Try.prog 3 [.int .i64 a, .ro n (famL (i64F f) n)] (.bool true) := by
  refine ASpec.start 1000 Try.func3 (fn := Try.f3) rfl (by decide) mixed (by kernel_rfl) (by simp) ?_
  have h0W := W_big
  simp (disch := omega) [ini, upd_eq, tyNum]
  refine callT_of known2 rfl rfl ?_
  simp (disch := omega) [upd_eq, tyNum]
  refine callT_of (make a f n) rfl rfl ?_
  have hX := mkN_lt a f n
  generalize mkN a f n = X at *
  obtain ⟨M, hM, ho, h1, s1⟩ := odd_ a f n
  have hneg : (negN M : Int) * (limb M 0 : Nat) % 4294967296 = 4294967295 := by
    have h2 := neg_mod ho
    have h3 : limb M 0 = M % 4294967296 := limb_0 M
    have h4 : (negN M * (M % 4294967296)) % 4294967296 = (M * negN M) % 4294967296 := by rw [Nat.mul_comm M]; exact Nat.mul_mod_mod _ _ _
    rw [h3, show (negN M : Int) * ((M % 4294967296 : Nat) : Int) = ((negN M * (M % 4294967296) : Nat) : Int) from rfl]
    omega
  by_cases hx : X % 2 = 1 ∧ X ≠ 1
  case' pos => simp (disch := omega) [upd_eq, tyNum]
  case' pos => refine callT_of (make_mont hX hx.1 hx.2) rfl (by simp [noRef, noRefs, mkM]) ?_
  case' pos => simp (disch := omega) [upd_eq, tyNum, tyMont, mkM]
  case' pos => refine callT_of (rmake_mont hX hx.1 hx.2) rfl (by simp [noRef, noRefs, mkM]) ?_
  case' pos => simp (disch := omega) [upd_eq, tyNum, tyMont, mkM]
  case' neg => simp (disch := omega) [upd_eq, tyNum]
  case' neg => refine callT_of (make_none hX (by omega)) rfl (by simp [noRef, noRefs]) ?_
  case' neg => simp (disch := omega) [upd_eq, tyNum, tyMont]
  case' neg => refine callT_of (rmake_none hX (by omega)) rfl (by simp [noRef, noRefs]) ?_
  case' neg => simp (disch := omega) [upd_eq, tyNum, tyMont]
  all_goals
    refine callT_of s1 rfl rfl ?_
    simp (disch := omega) [upd_eq, tyNum, tyMont]
    refine callT_of (make_mont hM ho h1) rfl (by simp [noRef, noRefs, mkM]) ?_
    simp (disch := omega) [upd_eq, tyNum, tyMont, mkM]
    refine callT_of s1 rfl rfl ?_
    simp (disch := omega) [upd_eq, tyNum, tyMont]
    refine callT_of (rmake_mont hM ho h1) rfl (by simp [noRef, noRefs, mkM]) ?_
    simp (disch := omega) [upd_eq, tyNum, tyMont, mkM, isBool, eql_mont, tyU32, montL_M, limbA_def, w_u32, hneg, resA_L Try.results3]
end Go.Proofs.Ytlpeloenigdfdaa
