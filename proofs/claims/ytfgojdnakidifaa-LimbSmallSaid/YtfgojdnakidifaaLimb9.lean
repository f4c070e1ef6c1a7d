/-
  Numbers as bytes: limb and the document.
-/
import Derived.Test.YtfgojdnakidifaaLimb8
set_option linter.unusedSimpArgs false
set_option linter.unusedVariables false
namespace Go.Proofs.Ytfgojdnakidifaa
open Go.Am

theorem byte_ex : ∃ f : Nat → Nat → Nat, ∀ N j, f N j = N / 2 ^ (8 * j) % 256 := ⟨_, fun _ _ => rfl⟩
/-- byte j of a number, from below -/
noncomputable def byteN : Nat → Nat → Nat := Classical.choose byte_ex
theorem byteN_def (N j : Nat) : byteN N j = N / 2 ^ (8 * j) % 256 := Classical.choose_spec byte_ex N j
theorem byteN_lt (N j : Nat) : byteN N j < 256 := by rw [byteN_def]; exact Nat.mod_lt _ (by decide)
theorem byte_limb (N i j : Nat) (hj : j < 4) : limb N i / 2 ^ (8 * j) % 256 = byteN N (4 * i + j) := by
  rw [limb_def, byteN_def, show 8 * (4 * i + j) = 32 * i + 8 * j by omega, Nat.pow_add, ← Nat.div_div_eq_div_mul]
  generalize N / 2 ^ (32 * i) = x
  rcases (by omega : j = 0 ∨ j = 1 ∨ j = 2 ∨ j = 3) with rfl | rfl | rfl | rfl <;> simp <;> omega
/-- its bytes, the highest first -/
noncomputable def byteF (N j : Nat) : AV := .int .u8 (byteN N (31 - j) : Nat)
noncomputable def bytesL (N : Nat) : List AV := famL (byteF N) 32
theorem bytes_step (N i : Nat) (hi : i < 8) : famL (byteF N) (4 * (7 - i)) ++ [.int .u8 ((limb N i : Int) / 16777216 % 256), .int .u8 ((limb N i : Int) / 65536 % 256), .int .u8 ((limb N i : Int) / 256 % 256), .int .u8 ((limb N i : Int) % 256)] = famL (byteF N) (4 * (7 - i) + 4) := by
  have h0 := byte_limb N i 0 (by omega)
  have h1 := byte_limb N i 1 (by omega)
  have h2 := byte_limb N i 2 (by omega)
  have h3 := byte_limb N i 3 (by omega)
  simp only [Nat.mul_zero, Nat.pow_zero, Nat.div_one, Nat.mul_one, show 8 * 2 = 16 from rfl, show 8 * 3 = 24 from rfl, show (2 : Nat) ^ 8 = 256 from rfl, show (2 : Nat) ^ 16 = 65536 from rfl, show (2 : Nat) ^ 24 = 16777216 from rfl] at h0 h1 h2 h3
  rw [famL_succ, famL_succ, famL_succ, famL_succ]
  simp only [List.append_assoc, List.cons_append, List.nil_append, byteF]
  rw [show 31 - 4 * (7 - i) = 4 * i + 3 by omega, show 31 - (4 * (7 - i) + 1) = 4 * i + 2 by omega, show 31 - (4 * (7 - i) + 1 + 1) = 4 * i + 1 by omega, show 31 - (4 * (7 - i) + 1 + 1 + 1) = 4 * i + 0 by omega]
  simp only [Nat.add_zero] at *
  rw [← h0, ← h1, ← h2, ← h3]
  rfl
theorem leaf_four (x0 x1 x2 x3 : Int) : [AV.int .u8 x0, .int .u8 x1, .int .u8 x2, .int .u8 x3].all leafOk = true := rfl
theorem zOkU8 : zOk Try.prog 5 1 = true := by kernel_rfl
theorem noRefs_byteF (N n : Nat) : noRefs (famL (byteF N) n) = true := noRefs_famL fun _ _ => rfl
theorem refsLts_byteF (m N n : Nat) : refsLts m (famL (byteF N) n) = true := refsLts_famL fun _ _ => rfl

theorem rens_byteF (ρ : Nat → Nat) (N n : Nat) : rens ρ (famL (byteF N) n) = famL (byteF N) n := rens_famL fun _ _ => rfl

theorem rbytes (A : Nat) : ASpec Try.prog 20 [num A] (.ro 32 (bytesL A)) := by
  refine ASpec.start 1000 Try.func20 (fn := Try.f20) rfl (by decide) mixed (by kernel_rfl) (by simp) ?_
  simp (disch := omega) [ini, upd_eq]
  refine goT_round mixed 100 ?_
  simp (disch := omega) [upd_eq, tyU32, tyNum, tyU8, tyBytes, numL_get, limbA_def, binA_shr, w_u8, build4 tyU8 rfl rfl]
  simp (disch := omega) [upd_eq, appendA, appendB, srcA, zOkU8, leafOk, HP.add, tyInt, in_i64]
  have h0 : [AV.int .u8 ((limb A 7 : Int) / 16777216 % 256), .int .u8 ((limb A 7 : Int) / 65536 % 256), .int .u8 ((limb A 7 : Int) / 256 % 256), .int .u8 ((limb A 7 : Int) % 256)] = famL (byteF A) 4 := bytes_step A 7 (by omega)
  refine goT_downR (X := Nat) (fun i => i) (fun i => [(1, .ptr 0 0), (3, .sl 1 0 1 (4 * (8 - i))), (4, .int .i64 ((i : Int) - 1))]) (fun i => [(0, ⟨numL A, true⟩), (1, ⟨famL (byteF A) (4 * (8 - i)), false⟩)]) 2
    (fun i => i ≤ 7) ?_ 7 (fun k => if k = 1 then 2 else k) (Nat.le_refl _) ?_
  · intro i hi IH
    refine goT_round mixed 100 ?_
    cases i with
    | zero =>
      have hv : view ⟨bkl [(0, ⟨numL A, true⟩), (1, ⟨famL (byteF A) 32, false⟩)], 2⟩ (.sl 1 0 1 32) = .ro 32 (bytesL A) := by
        rw [view_sl (cs := famL (byteF A) 32) (f := false) (by simp) (by simp) (noRefs_byteF _ _)]
        simp [bytesL, List.take_of_length_le]
      simp (disch := omega) [st_eq, upd_eq, resA_L Try.results20, hv]
    | succ i =>
      have hi8 : i < 8 := by omega
      have hb := bytes_step A i hi8
      have e : 4 * (8 - i) = 4 * (7 - i) + 4 := by omega
      simp (disch := omega) [st_eq, upd_eq, tyU32, tyNum, tyU8, tyBytes, show (i : Int) < 8 by omega, numL_get, limbA_def, binA_shr, w_u8, build4 tyU8 rfl rfl]
      simp (disch := omega) [upd_eq, appendA, appendB, srcA, zOkU8, leafOk, HP.move, tyInt, in_i64, show 4 * (7 - i) ≤ 70368744177660 by omega, show 4 * (7 - i) ≤ 4611686018427387900 by omega]
      refine IH i _ (fun k => if k = 1 then 3 else k) (by omega) (by omega) ⟨?_, ?_, ?_⟩
      · simp [upd_eq, ren, refsLt, e]
      · simp [upd_eq, e, refsLts_byteF, rens_byteF, List.take_of_length_le, hb]
      · simp
  · refine ⟨?_, ?_, ?_⟩
    · simp [upd_eq, ren, refsLt]
    · simp [upd_eq, ← h0]
      exact ⟨rfl, rfl⟩
    · simp

theorem bytes (A : Nat) : ASpec Try.prog 17 [num A] (.ro 32 (bytesL A)) := by
  refine ASpec.start 1000 Try.func17 (fn := Try.f17) rfl (by decide) mixed (by kernel_rfl) (by simp) ?_
  simp (disch := omega) [ini, upd_eq, tyBytes, makeA, tyU8, HP.add, zerosA]
  refine goT_round mixed 100 ?_
  simp (disch := omega) [upd_eq, tyU32, tyNum, tyU8, tyBytes, numL_get, limbA_def, binA_shr, w_u8, build4 tyU8 rfl rfl]
  simp (disch := omega) [upd_eq, appendA, appendB, srcA, zOkU8, leafOk, HP.move, tyInt, in_i64]
  have h0 : [AV.int .u8 ((limb A 7 : Int) / 16777216 % 256), .int .u8 ((limb A 7 : Int) / 65536 % 256), .int .u8 ((limb A 7 : Int) / 256 % 256), .int .u8 ((limb A 7 : Int) % 256)] = famL (byteF A) 4 := bytes_step A 7 (by omega)
  refine goT_downR (X := Nat) (fun i => i) (fun i => [(1, .ptr 0 0), (3, .sl 1 0 1 (4 * (8 - i))), (4, .int .i64 ((i : Int) - 1))]) (fun i => [(0, ⟨numL A, true⟩), (1, ⟨famL (byteF A) (4 * (8 - i)), false⟩)]) 2
    (fun i => i ≤ 7) ?_ 7 (fun k => if k = 1 then 3 else k) (Nat.le_refl _) ?_
  · intro i hi IH
    refine goT_round mixed 100 ?_
    cases i with
    | zero =>
      have hv : view ⟨bkl [(0, ⟨numL A, true⟩), (1, ⟨famL (byteF A) 32, false⟩)], 2⟩ (.sl 1 0 1 32) = .ro 32 (bytesL A) := by
        rw [view_sl (cs := famL (byteF A) 32) (f := false) (by simp) (by simp) (noRefs_byteF _ _)]
        simp [bytesL, List.take_of_length_le]
      simp (disch := omega) [st_eq, upd_eq, resA_L Try.results17, hv, tyBytes]
    | succ i =>
      have hi8 : i < 8 := by omega
      have hb := bytes_step A i hi8
      have e : 4 * (8 - i) = 4 * (7 - i) + 4 := by omega
      simp (disch := omega) [st_eq, upd_eq, tyU32, tyNum, tyU8, tyBytes, show (i : Int) < 8 by omega, numL_get, limbA_def, binA_shr, w_u8, build4 tyU8 rfl rfl]
      simp (disch := omega) [upd_eq, appendA, appendB, srcA, zOkU8, leafOk, HP.move, tyInt, in_i64, show 4 * (7 - i) ≤ 70368744177660 by omega, show 4 * (7 - i) ≤ 4611686018427387900 by omega]
      refine IH i _ (fun k => if k = 1 then 3 else k) (by omega) (by omega) ⟨?_, ?_, ?_⟩
      · simp [upd_eq, ren, refsLt, e]
      · simp [upd_eq, e, refsLts_byteF, rens_byteF, List.take_of_length_le, hb]
      · simp
  · refine ⟨?_, ?_, ?_⟩
    · simp [upd_eq, ren, refsLt]
    · simp [upd_eq, ← h0]
      exact ⟨rfl, rfl⟩
    · simp
end Go.Proofs.Ytfgojdnakidifaa
