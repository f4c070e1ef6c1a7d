/-
  The statements of mont: units, sums.
-/
import Derived.Test.YtlpeloenigdfdaaMont14
set_option linter.unusedSimpArgs false
set_option linter.unusedVariables false
namespace Go.Proofs.Ytlpeloenigdfdaa
open Go.Am

set_option maxHeartbeats 4000000 in
set_option maxRecDepth 16000 in
theorem law_MontUnits (a : Int) (f : Nat → Int) (n : Nat) (b : Int) (g : Nat → Int) (m : Nat) :
    ASpec Try.prog 9 [.int .i64 a, .ro n (famL (i64F f) n), .int .i64 b, .ro m (famL (i64F g) m)] (.bool true) := by
  refine ASpec.start 1000 Try.func9 (fn := Try.f9) rfl (by decide) mixed (by kernel_rfl) (by simp) ?_
  have h0W := W_big
  have h0W1 : 0 < W := W_pos
  simp (disch := omega) [ini, upd_eq, tyNum]
  refine callT_of known2 rfl rfl ?_
  simp (disch := omega) [upd_eq, tyNum]
  obtain ⟨M, hM, ho, h1, s1⟩ := odd_ a f n
  refine callT_of s1 rfl rfl ?_
  simp (disch := omega) [upd_eq, tyNum]
  refine callT_of (make_mont hM ho h1) rfl (by simp [noRef, noRefs, mkM]) ?_
  simp (disch := omega) [upd_eq, tyNum, tyMont, mkM]
  refine callT_of (make b g m) rfl rfl ?_
  have hX := mkN_lt b g m
  generalize mkN b g m = X at *
  have hM0 : M ≠ 0 := by omega
  have hmm : ∀ x, mm M x < W := fun x => Nat.lt_trans (mm_lt ho x) hM
  have hmd : ∀ x, x % M < W := fun x => Nat.lt_trans (Nat.mod_lt x (by omega)) hM
  have hR : W % M = mm M 1 := by rw [mm, Nat.one_mul]
  have hT : (W % M * W + 0) % M = W * W % M := by rw [Nat.add_zero, Nat.mul_mod, Nat.mod_mod, ← Nat.mul_mod]
  have hTW := hmd (W * W)
  simp (disch := omega) [upd_eq, tyNum, tyMont]
  refine callT_of (in_ hX hM hM0) rfl rfl ?_
  simp (disch := omega) [upd_eq, tyNum, tyMont]
  have s2 := rrestN (lo := 0) (hi := W % M) h0W1 (hmd W) hM hM0
  rw [hT] at s2
  refine callT_of s2 rfl rfl ?_
  simp (disch := omega) [upd_eq, tyNum, tyMont]
  refine callT_of (rfromN 1 (by omega)) rfl rfl ?_
  simp (disch := omega) [upd_eq, tyNum, tyMont]
  refine callT_of (in_ (show 1 < W by omega) hM hM0) rfl rfl ?_
  generalize hT2 : W * W % M = T2 at *
  rw [hR]
  simp (disch := omega) [upd_eq, tyNum, tyMont, eql_num (hmm 1) (hmm 1)]
  have s3 := mmul_mm (R := mm M 1) (T := T2) (a := X) (b := 1) hM ho
  rw [Nat.mul_one] at s3
  refine callT_of s3 rfl rfl ?_
  simp (disch := omega) [upd_eq, tyNum, tyMont, eql_num (hmm X) (hmm X)]
  refine callT_of (out_mm hM ho) rfl rfl ?_
  rw [Nat.mod_eq_of_lt (show 1 < M by omega)]
  simp (disch := omega) [upd_eq, tyNum, tyMont]
  refine callT_of (rfromN 1 (by omega)) rfl rfl ?_
  simp (disch := omega) [upd_eq, tyNum, tyMont, eql_num]
  refine callT_of (rfromN 1 (by omega)) rfl rfl ?_
  simp (disch := omega) [upd_eq, tyNum, tyMont]
  have s4 := mmul (R := mm M 1) (T := T2) (A := mm M X) (B := 1) (hmm X) (by omega) hM ho (neg_mod ho) (negN_lt M) (Nat.mul_lt_mul_of_lt_of_le (mm_lt ho X) (by omega) h0W1)
  rw [mm_out ho] at s4
  refine callT_of s4 rfl rfl ?_
  simp (disch := omega) [upd_eq, tyNum, tyMont]
  refine callT_of (out_mm hM ho) rfl rfl ?_
  simp (disch := omega) [upd_eq, tyNum, tyMont, eql_num (hmd X) (hmd X)]
  have s5 := mmul (R := mm M 1) (T := T2) (A := mm M X) (B := 0) (hmm X) h0W1 hM ho (neg_mod ho) (negN_lt M) (by rw [Nat.mul_zero]; exact Nat.mul_pos (by omega) h0W1)
  rw [Nat.mul_zero, ← redc_uniq (r := 0) (X := 0) ho (by omega) (Mq.of_eq (Nat.zero_mul _))] at s5
  refine callT_of s5 rfl rfl ?_
  simp (disch := omega) [upd_eq, tyNum, tyMont, eql_num h0W1 h0W1, eql_num hTW hTW, resA_L Try.results9]

set_option maxHeartbeats 4000000 in
set_option maxRecDepth 16000 in
theorem law_MontSums (a : Int) (f : Nat → Int) (n : Nat) (b : Int) (g : Nat → Int) (m : Nat) (c : Int) (h : Nat → Int) (k : Nat) :
    ASpec Try.prog 10 [.int .i64 a, .ro n (famL (i64F f) n), .int .i64 b, .ro m (famL (i64F g) m), .int .i64 c, .ro k (famL (i64F h) k)] (.bool true) := by
  refine ASpec.startX [7] 1000 Try.func10 (fn := Try.f10) rfl (by decide) mixed (by kernel_rfl) (by simp) ?_
  have h0W := W_big
  have h0W1 : 0 < W := W_pos
  simp (disch := omega) [ini, upd_eq, tyNum]
  refine callT_of known2 rfl rfl ?_
  simp (disch := omega) [upd_eq, tyNum]
  obtain ⟨M, hM, ho, h1, s1⟩ := odd_ a f n
  refine callT_of s1 rfl rfl ?_
  simp (disch := omega) [upd_eq, tyNum]
  refine callT_of (make_mont hM ho h1) rfl (by simp [noRef, noRefs, mkM]) ?_
  simp (disch := omega) [upd_eq, tyNum, tyMont, mkM]
  have hX := mkN_lt b g m
  have hY := mkN_lt c h k
  have hmx := make b g m
  have hmy := make c h k
  generalize mkN b g m = X at *
  generalize mkN c h k = Y at *
  have hM0 : M ≠ 0 := by omega
  have hmm : ∀ x, mm M x < W := fun x => Nat.lt_trans (mm_lt ho x) hM
  have hmd : ∀ x, x % M < W := fun x => Nat.lt_trans (Nat.mod_lt x (by omega)) hM
  refine goT_region3 mixed 10 (by kernel_rfl) (by kernel_rfl) rfl 4
    [(13, .ptr 0 0), (14, .ptr 1 0), (16, .ptr 2 0), (17, .ptr 3 0)]
    [(0, ⟨numL M, true⟩), (1, ⟨montL M (W % M) (W * W % M) (negN M), true⟩), (2, ⟨numL (X % M), true⟩), (3, ⟨numL (Y % M), true⟩)] ?_ ?_
  · refine goT_run mixed 900 ?_
    have hx := hmd X
    have hy := hmd Y
    generalize X % M = x at *
    generalize Y % M = y at *
    simp (disch := omega) [st_eq, upd_eq, tyNum]
    obtain ⟨S, c1, hS, hc1, hcS, s2⟩ := raddR hx hy
    refine callT_of s2 rfl rfl ?_
    simp (disch := omega) [upd_eq, tyNum, tyU32, tyInt, in_i64]
    refine callT_of (rfromN c1 (by omega)) rfl rfl ?_
    simp (disch := omega) [upd_eq, tyNum]
    have s3 := rrestN hS (show c1 < W by omega) hM hM0
    rw [hcS] at s3
    refine callT_of s3 rfl rfl ?_
    simp (disch := omega) [upd_eq, tyNum, tyMont]
    refine callT_of (in_ hx hM hM0) rfl rfl ?_
    simp (disch := omega) [upd_eq, tyNum, tyMont]
    refine callT_of (in_ hy hM hM0) rfl rfl ?_
    simp (disch := omega) [upd_eq, tyNum]
    obtain ⟨S2, c2, hS2, hc2, hcS2, s4⟩ := raddR (hmm x) (hmm y)
    refine callT_of s4 rfl rfl ?_
    simp (disch := omega) [upd_eq, tyNum, tyU32, tyInt, in_i64]
    refine callT_of (rfromN c2 (by omega)) rfl rfl ?_
    simp (disch := omega) [upd_eq, tyNum]
    have s5 := rrestN hS2 (show c2 < W by omega) hM hM0
    rw [hcS2] at s5
    refine callT_of s5 rfl rfl ?_
    simp (disch := omega) [upd_eq, tyNum, tyMont]
    have s6 := in_ (M := M) (R := W % M) (T := W * W % M) (N := negN M) (hmd (x + y)) hM hM0
    have he : mm M ((x + y) % M) = (mm M x + mm M y) % M := by
      rw [mm_congr (Mq.mod (x + y))]
      unfold mm
      rw [Nat.add_mul, Nat.add_mod]
    rw [he] at s6
    refine callT_of s6 rfl rfl ?_
    simp (disch := omega) [upd_eq, tyNum, eql_num (hmd (mm M x + mm M y)) (hmd (mm M x + mm M y)), resA_L Try.results10]
  · simp (disch := omega) [upd_eq, tyNum, tyMont]
    refine callT_of hmx rfl rfl ?_
    simp (disch := omega) [upd_eq, tyNum]
    refine callT_of (below hX hM hM0) rfl rfl ?_
    simp (disch := omega) [upd_eq, tyNum, tyMont]
    refine callT_of hmy rfl rfl ?_
    simp (disch := omega) [upd_eq, tyNum]
    refine callT_of (below hY hM hM0) rfl rfl ?_
    simp (disch := omega) [upd_eq, tyNum]
    refine ⟨⟨?_, ?_, ?_⟩, ⟨fun i => if i = 2 then 3 else if i = 3 then 2 else i, ?_, ?_, ?_⟩⟩
    · simp [upd_eq, ren, refsLt]
    · simp [upd_eq]
    · exact fun _ _ _ _ h => h
    · simp [upd_eq, ren, refsLt]
    · simp [upd_eq]
    · exact swap_inj 2 3 _
end Go.Proofs.Ytlpeloenigdfdaa
