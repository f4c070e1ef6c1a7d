/-
  The statements of mont: products, in and out.
-/
import Derived.Test.YtlpeloenigdfdaaMont13
set_option linter.unusedSimpArgs false
set_option linter.unusedVariables false
namespace Go.Proofs.Ytlpeloenigdfdaa
open Go.Am

theorem in_out {M y : Nat} (ho : M % 2 = 1) : mm M (redc M (y % M)) = y % M := by
  have h := redc_W ho (y % M)
  unfold mm
  rw [h, Nat.mod_mod]
theorem swap_inj (a b : Nat) : ∀ (l : List (Nat × Blk)), ∀ p ∈ l, ∀ q ∈ l, ((fun i => if i = a then b else if i = b then a else i) p.1 = (fun i => if i = a then b else if i = b then a else i) q.1) → p.1 = q.1 := by
  intro l p _ q _ h
  generalize p.fst = i at *
  generalize q.fst = j at *
  simp only at h
  (repeat' split at h) <;> omega

set_option maxHeartbeats 4000000 in
set_option maxRecDepth 16000 in
theorem law_MontMuls (a : Int) (f : Nat → Int) (n : Nat) (b : Int) (g : Nat → Int) (m : Nat) (c : Int) (h : Nat → Int) (k : Nat) :
    ASpec Try.prog 4 [.int .i64 a, .ro n (famL (i64F f) n), .int .i64 b, .ro m (famL (i64F g) m), .int .i64 c, .ro k (famL (i64F h) k)] (.bool true) := by
  refine ASpec.startX [8] 1000 Try.func4 (fn := Try.f4) rfl (by decide) mixed (by kernel_rfl) (by simp) ?_
  have h0W := W_big
  simp (disch := omega) [ini, upd_eq, tyNum]
  refine callT_of known2 rfl rfl ?_
  simp (disch := omega) [upd_eq, tyNum]
  obtain ⟨M, hM, ho, h1, s1⟩ := odd_ a f n
  refine callT_of s1 rfl rfl ?_
  simp (disch := omega) [upd_eq, tyNum]
  refine callT_of (make_mont hM ho h1) rfl (by simp [noRef, noRefs, mkM]) ?_
  simp (disch := omega) [upd_eq, tyNum, tyMont, mkM]
  refine callT_of (make b g m) rfl rfl ?_
  simp (disch := omega) [upd_eq, tyNum]
  refine callT_of (make c h k) rfl rfl ?_
  have hX := mkN_lt b g m
  have hY := mkN_lt c h k
  generalize mkN b g m = X at *
  generalize mkN c h k = Y at *
  have hM0 : M ≠ 0 := by omega
  have hmm : ∀ x, mm M x < W := fun x => Nat.lt_trans (mm_lt ho x) hM
  have hmd : ∀ x, x % M < W := fun x => Nat.lt_trans (Nat.mod_lt x (by omega)) hM
  simp (disch := omega) [upd_eq, tyNum]
  refine goT_region3 mixed 6 (by kernel_rfl) (by kernel_rfl) rfl 6
    [(13, .ptr 0 0), (14, .ptr 1 0), (16, .ptr 2 0), (17, .ptr 3 0), (18, .ptr 4 0), (19, .ptr 5 0)]
    [(0, ⟨numL M, true⟩), (1, ⟨montL M (W % M) (W * W % M) (negN M), true⟩), (2, ⟨numL X, true⟩), (3, ⟨numL Y, true⟩), (4, ⟨numL (mm M X), true⟩), (5, ⟨numL (mm M Y), true⟩)] ?_ ?_
  · refine goT_run mixed 900 ?_
    simp (disch := omega) [st_eq, upd_eq, tyNum]
    obtain ⟨L, H, hL, hH, hLH, s2⟩ := rmulR hX hY
    refine callT_of s2 rfl rfl ?_
    simp (disch := omega) [upd_eq, tyNum]
    have s3 := rrestN hL hH hM hM0
    rw [hLH] at s3
    refine callT_of s3 rfl rfl ?_
    simp (disch := omega) [upd_eq, tyNum, tyMont]
    refine callT_of (rin hX hM hM0) rfl rfl ?_
    simp (disch := omega) [upd_eq, tyNum, tyMont, eql_num (hmm X) (hmm X)]
    refine callT_of (out_mm hM ho) rfl rfl ?_
    simp (disch := omega) [upd_eq, tyNum, tyMont]
    refine callT_of (below hX hM hM0) rfl rfl ?_
    simp (disch := omega) [upd_eq, tyNum, tyMont, eql_num (hmd X) (hmd X)]
    refine callT_of (mmul_mm hM ho) rfl rfl ?_
    simp (disch := omega) [upd_eq, tyNum, tyMont]
    have s4 := rmm (R := W % M) (T := W * W % M) (N := negN M) (hmm X) (hmm Y) hM ho
    rw [mm_mul ho] at s4
    refine callT_of s4 rfl rfl ?_
    simp (disch := omega) [upd_eq, tyNum, tyMont, eql_num (hmm (X * Y)) (hmm (X * Y))]
    refine callT_of (mmul_mm hM ho) rfl rfl ?_
    simp (disch := omega) [upd_eq, tyNum, tyMont]
    refine callT_of (out_mm hM ho) rfl rfl ?_
    simp (disch := omega) [upd_eq, tyNum, tyMont, eql_num (hmd (X * Y)) (hmd (X * Y))]
    refine callT_of (mmul_mm hM ho) rfl rfl ?_
    simp (disch := omega) [upd_eq, tyNum, tyMont]
    have s5 := mmul_mm (R := W % M) (T := W * W % M) (a := Y) (b := X) hM ho
    rw [Nat.mul_comm Y X] at s5
    refine callT_of s5 rfl rfl ?_
    simp (disch := omega) [upd_eq, tyNum, tyMont, eql_num (hmm (X * Y)) (hmm (X * Y))]
    refine callT_of (below hY hM hM0) rfl rfl ?_
    simp (disch := omega) [upd_eq, tyNum, tyMont]
    have hle : Y % M ≤ M * (W - 1) := by
      have h2 := Nat.mod_lt Y (show 0 < M by omega)
      have h3 : M * 1 ≤ M * (W - 1) := Nat.mul_le_mul_left _ (by omega)
      omega
    refine callT_of (out_ (hmd Y) hM ho hle) rfl rfl ?_
    simp (disch := omega) [upd_eq, tyNum, tyMont]
    have s6 := in_ (M := M) (R := W % M) (T := W * W % M) (N := negN M) (show redc M (Y % M) < W from Nat.lt_trans (redc_lt ho _) hM) hM hM0
    rw [in_out ho] at s6
    refine callT_of s6 rfl rfl ?_
    simp (disch := omega) [upd_eq, tyNum]
    refine callT_of (below hY hM hM0) rfl rfl ?_
    simp (disch := omega) [upd_eq, tyNum, eql_num (hmd Y) (hmd Y), resA_L Try.results4]
  · simp (disch := omega) [upd_eq, tyNum, tyMont]
    refine callT_of (in_ hX hM hM0) rfl rfl ?_
    simp (disch := omega) [upd_eq, tyNum, tyMont]
    refine callT_of (in_ hY hM hM0) rfl rfl ?_
    simp (disch := omega) [upd_eq, tyNum]
    refine ⟨⟨?_, ?_, ?_⟩, ⟨fun i => if i = 4 then 5 else if i = 5 then 4 else i, ?_, ?_, ?_⟩⟩
    · simp [upd_eq, ren, refsLt]
    · simp [upd_eq]
    · exact fun _ _ _ _ h => h
    · simp [upd_eq, ren, refsLt]
    · simp [upd_eq]
    · exact swap_inj 4 5 _
end Go.Proofs.Ytlpeloenigdfdaa
