/-
  The statements of mont: powers.
-/
import Derived.Test.YtlpeloenigdfdaaMont15
set_option linter.unusedSimpArgs false
set_option linter.unusedVariables false
namespace Go.Proofs.Ytlpeloenigdfdaa
open Go.Am

set_option maxHeartbeats 4000000 in
set_option maxRecDepth 16000 in
theorem law_MontPowers (a : Int) (f : Nat → Int) (n : Nat) (b : Int) (g : Nat → Int) (m : Nat) (e1 e2 : Int) (h : Nat → Int) (k : Nat) :
    ASpec Try.prog 5 [.int .i64 a, .ro n (famL (i64F f) n), .int .i64 b, .ro m (famL (i64F g) m), .int .i64 e1, .int .i64 e2, .ro k (famL (i64F h) k)] (.bool true) := by
  refine ASpec.startX [9] 1000 Try.func5 (fn := Try.f5) rfl (by decide) mixed (by kernel_rfl) (by simp) ?_
  have h0W := W_big
  have h0W1 : 0 < W := W_pos
  simp (disch := omega) [ini, upd_eq, tyNum]
  refine callT_of known2 rfl rfl ?_
  simp (disch := omega) [upd_eq, tyNum]
  obtain ⟨M, hM, ho, h1, s1⟩ := odd_ a f n
  refine callT_of s1 rfl rfl ?_
  simp (disch := omega) [upd_eq, tyNum]
  refine callT_of (make_mont hM ho h1) rfl (by simp [noRef, noRefs, mkM]) ?_
  simp (disch := omega) [upd_eq, tyNum, tyMont, mkM]
  refine callT_of (make b g m) rfl rfl ?_
  have hX := mkN_lt b g m
  have hK := mkN_lt 2 h k
  have hmk := make 2 h k
  generalize mkN b g m = X at *
  generalize mkN 2 h k = K at *
  obtain ⟨u, hu, _, s2⟩ := within2N e1 200 (by decide) (by decide)
  obtain ⟨v, hv, _, s3⟩ := within2N e2 200 (by decide) (by decide)
  have hM0 : M ≠ 0 := by omega
  have hmd : ∀ x, x % M < W := fun x => Nat.lt_trans (Nat.mod_lt x (by omega)) hM
  simp (disch := omega) [upd_eq, tyNum]
  refine callT_of s2 rfl rfl ?_
  simp (disch := omega) [upd_eq, tyNum]
  refine callT_of s3 rfl rfl ?_
  have pu := pow_ (T := W * W % M) (e := u) hX (show u < W by omega) hM ho
  have pv := pow_ (T := W * W % M) (e := v) hX (show v < W by omega) hM ho
  have puv := pow_ (T := W * W % M) (e := u + v) hX (show u + v < W by omega) hM ho
  have p0 := pow_ (T := W * W % M) (e := 0) hX h0W1 hM ho
  have p1 := pow_ (T := W * W % M) (e := 1) hX (show 1 < W by omega) hM ho
  have pk := pow_ (T := W * W % M) (e := K) hX hK hM ho
  have ru := rpower (e := u) hX (show u < W by omega) hM (show 2 ≤ M by omega)
  have rk := rpower (e := K) hX hK hM (show 2 ≤ M by omega)
  rw [Nat.pow_add, Nat.mul_mod (X ^ u)] at puv
  rw [Nat.pow_zero, Nat.mod_eq_of_lt (show 1 < M by omega)] at p0
  rw [Nat.pow_one] at p1
  have hPu := hmd (X ^ u)
  have hPv := hmd (X ^ v)
  have hPk := hmd (X ^ K)
  have hP1 := hmd X
  generalize X ^ u % M = Pu at *
  generalize X ^ v % M = Pv at *
  generalize X ^ K % M = Pk at *
  have hPP := hmd (Pu * Pv)
  simp (disch := omega) [upd_eq]
  refine goT_region3 mixed 10 (by kernel_rfl) (by kernel_rfl) rfl 5
    [(6, .ro k (famL (i64F h) k)), (15, .ptr 0 0), (16, .ptr 1 0), (18, .ptr 2 0), (19, .int .i64 (u : Nat)), (20, .int .i64 (v : Nat)), (21, .ptr 3 0), (22, .ptr 4 0)]
    [(0, ⟨numL M, true⟩), (1, ⟨montL M (W % M) (W * W % M) (negN M), true⟩), (2, ⟨numL X, true⟩), (3, ⟨numL Pu, true⟩), (4, ⟨numL Pv, true⟩)] ?_ ?_
  · refine goT_run mixed 900 ?_
    simp (disch := omega) [st_eq, upd_eq, tyNum]
    obtain ⟨L, H, hL, hH, hLH, s4⟩ := rmulR hPu hPv
    refine callT_of s4 rfl rfl ?_
    simp (disch := omega) [upd_eq, tyNum]
    have s5 := rrestN hL hH hM hM0
    rw [hLH] at s5
    generalize Pu * Pv % M = PP at *
    refine callT_of s5 rfl rfl ?_
    simp (disch := omega) [upd_eq, tyNum]
    refine callT_of hmk rfl rfl ?_
    simp (disch := omega) [upd_eq, tyNum]
    refine callT_of (rfromN u (by omega)) rfl rfl ?_
    simp (disch := omega) [upd_eq, tyNum]
    refine callT_of ru rfl rfl ?_
    simp (disch := omega) [upd_eq, tyNum, tyMont, eql_num hPu hPu, in_i64]
    have s6 := rfromN (u + v) (by omega)
    rw [show ((u + v : Nat) : Int) = (u : Int) + v from rfl] at s6
    refine callT_of s6 rfl rfl ?_
    simp (disch := omega) [upd_eq, tyNum, tyMont]
    refine callT_of puv rfl rfl ?_
    simp (disch := omega) [upd_eq, tyNum, tyMont, eql_num hPP hPP]
    refine callT_of p0 rfl rfl ?_
    simp (disch := omega) [upd_eq, tyNum, tyMont]
    refine callT_of (rfromN 1 (by omega)) rfl rfl ?_
    simp (disch := omega) [upd_eq, tyNum, tyMont, eql_num]
    refine callT_of (rfromN 1 (by omega)) rfl rfl ?_
    simp (disch := omega) [upd_eq, tyNum, tyMont]
    refine callT_of p1 rfl rfl ?_
    simp (disch := omega) [upd_eq, tyNum, tyMont]
    refine callT_of (below hX hM hM0) rfl rfl ?_
    simp (disch := omega) [upd_eq, tyNum, tyMont, eql_num hP1 hP1]
    refine callT_of pk rfl rfl ?_
    simp (disch := omega) [upd_eq, tyNum, tyMont]
    refine callT_of rk rfl rfl ?_
    simp (disch := omega) [upd_eq, tyNum, eql_num hPk hPk, resA_L Try.results5]
  · simp (disch := omega) [upd_eq, tyNum, tyMont]
    refine callT_of (rfromN u (by omega)) rfl rfl ?_
    simp (disch := omega) [upd_eq, tyNum, tyMont]
    refine callT_of pu rfl rfl ?_
    simp (disch := omega) [upd_eq, tyNum, tyMont]
    refine callT_of (rfromN v (by omega)) rfl rfl ?_
    simp (disch := omega) [upd_eq, tyNum, tyMont]
    refine callT_of pv rfl rfl ?_
    simp (disch := omega) [upd_eq, tyNum]
    refine ⟨⟨?_, ?_, ?_⟩, ⟨fun i => if i = 3 then 4 else if i = 4 then 3 else i, ?_, ?_, ?_⟩⟩
    · simp [upd_eq, ren, refsLt, refsLts_i64F]
    · simp [upd_eq]
    · exact fun _ _ _ _ h => h
    · simp [upd_eq, ren, refsLt, refsLts_i64F]
    · simp [upd_eq]
    · exact swap_inj 3 4 _

set_option maxHeartbeats 4000000 in
set_option maxRecDepth 16000 in
theorem law_MontExponents (a : Int) (f : Nat → Int) (n : Nat) (b : Int) (g : Nat → Int) (m : Nat) (c : Int) (h : Nat → Int) (k : Nat) (e1 e2 : Int) :
    ASpec Try.prog 8 [.int .i64 a, .ro n (famL (i64F f) n), .int .i64 b, .ro m (famL (i64F g) m), .int .i64 c, .ro k (famL (i64F h) k), .int .i64 e1, .int .i64 e2] (.bool true) := by
  refine ASpec.startX [12] 1000 Try.func8 (fn := Try.f8) rfl (by decide) mixed (by kernel_rfl) (by simp) ?_
  have h0W := W_big
  have h0W1 : 0 < W := W_pos
  simp (disch := omega) [ini, upd_eq, tyNum]
  refine callT_of known2 rfl rfl ?_
  simp (disch := omega) [upd_eq, tyNum]
  obtain ⟨M, hM, ho, h1, s1⟩ := odd_ a f n
  refine callT_of s1 rfl rfl ?_
  simp (disch := omega) [upd_eq, tyNum]
  refine callT_of (make_mont hM ho h1) rfl (by simp [noRef, noRefs, mkM]) ?_
  simp (disch := omega) [upd_eq, tyNum, tyMont, mkM]
  refine callT_of (make b g m) rfl rfl ?_
  simp (disch := omega) [upd_eq, tyNum]
  refine callT_of (make c h k) rfl rfl ?_
  have hX := mkN_lt b g m
  have hY := mkN_lt c h k
  generalize mkN b g m = X at *
  generalize mkN c h k = Y at *
  obtain ⟨u, hu, _, s2⟩ := within2N e1 40 (by decide) (by decide)
  obtain ⟨v, hv, _, s3⟩ := within2N e2 40 (by decide) (by decide)
  have huv : u * v < 1600 := by
    have := Nat.mul_le_mul (show u ≤ 39 by omega) (show v ≤ 39 by omega); omega
  have hM0 : M ≠ 0 := by omega
  have hmd : ∀ x, x % M < W := fun x => Nat.lt_trans (Nat.mod_lt x (by omega)) hM
  simp (disch := omega) [upd_eq, tyNum]
  refine callT_of s2 rfl rfl ?_
  simp (disch := omega) [upd_eq, tyNum]
  refine callT_of s3 rfl rfl ?_
  have pu := pow_ (T := W * W % M) (e := u) hX (show u < W by omega) hM ho
  have pyu := pow_ (T := W * W % M) (e := u) hY (show u < W by omega) hM ho
  have puv := pow_ (T := W * W % M) (e := u * v) hX (show u * v < W by omega) hM ho
  have pz := pow_ (T := W * W % M) (e := u) (hmd (X * Y)) (show u < W by omega) hM ho
  have pvv := pow_ (T := W * W % M) (e := v) (hmd (X ^ u)) (show v < W by omega) hM ho
  rw [Nat.pow_mul] at puv
  rw [← Nat.pow_mod] at pvv pz
  rw [Nat.mul_pow, Nat.mul_mod (X ^ u)] at pz
  have hPu := hmd (X ^ u)
  have hPy := hmd (Y ^ u)
  have hPv := hmd ((X ^ u) ^ v)
  generalize (X ^ u) ^ v % M = Pv at *
  generalize X ^ u % M = Pu at *
  generalize Y ^ u % M = Py at *
  have hPP := hmd (Pu * Py)
  have hXY := hmd (X * Y)
  simp (disch := omega) [upd_eq, tyNum, tyMont]
  refine callT_of (rfromN u (by omega)) rfl rfl ?_
  simp (disch := omega) [upd_eq, tyNum, tyMont]
  refine callT_of pu rfl rfl ?_
  simp (disch := omega) [upd_eq, tyNum, tyMont]
  refine callT_of (rfromN v (by omega)) rfl rfl ?_
  simp (disch := omega) [upd_eq, tyNum, tyMont]
  refine callT_of pvv rfl rfl ?_
  simp (disch := omega) [upd_eq, tyNum]
  obtain ⟨L, H, hL, hH, hLH, s4⟩ := rmulR hX hY
  refine callT_of s4 rfl rfl ?_
  simp (disch := omega) [upd_eq, tyNum]
  have s5 := rrestN hL hH hM hM0
  rw [hLH] at s5
  generalize X * Y % M = Z at *
  refine callT_of s5 rfl rfl ?_
  simp (disch := omega) [upd_eq, tyNum]
  obtain ⟨L2, H2, hL2, hH2, hLH2, s6⟩ := rmulR hPu hPy
  refine goT_region3 mixed 14 (by kernel_rfl) (by kernel_rfl) rfl 10
    [(17, .ptr 0 0), (18, .ptr 1 0), (20, .ptr 2 0), (22, .int .i64 (u : Nat)), (23, .int .i64 (v : Nat)), (24, .ptr 4 0), (27, .ptr 7 0), (29, .ptr 8 0), (30, .ptr 9 0)]
    [(0, ⟨numL M, true⟩), (1, ⟨montL M (W % M) (W * W % M) (negN M), true⟩), (2, ⟨numL X, true⟩), (4, ⟨numL Pv, true⟩), (7, ⟨numL Z, true⟩), (8, ⟨numL L2, true⟩), (9, ⟨numL H2, true⟩)] ?_ ?_
  · refine goT_run mixed 900 ?_
    simp (disch := omega) [st_eq, upd_eq, tyNum]
    have s7 := rrestN hL2 hH2 hM hM0
    rw [hLH2] at s7
    generalize Pu * Py % M = PP at *
    refine callT_of s7 rfl rfl ?_
    have euv : (u : Int) * v = ((u * v : Nat) : Int) := rfl
    simp (disch := omega) [upd_eq, tyNum, tyMont, in_i64]
    have s8 := rfromN (u * v) (by omega)
    rw [← euv] at s8
    refine callT_of s8 rfl rfl ?_
    simp (disch := omega) [upd_eq, tyNum, tyMont]
    refine callT_of puv rfl rfl ?_
    simp (disch := omega) [upd_eq, tyNum, tyMont, eql_num hPv hPv]
    refine callT_of (rfromN u (by omega)) rfl rfl ?_
    simp (disch := omega) [upd_eq, tyNum, tyMont]
    refine callT_of pz rfl rfl ?_
    simp (disch := omega) [upd_eq, tyNum, eql_num hPP hPP, resA_L Try.results8]
  · simp (disch := omega) [upd_eq, tyNum, tyMont]
    refine callT_of (rfromN u (by omega)) rfl rfl ?_
    simp (disch := omega) [upd_eq, tyNum, tyMont]
    refine callT_of pu rfl rfl ?_
    simp (disch := omega) [upd_eq, tyNum, tyMont]
    refine callT_of (rfromN u (by omega)) rfl rfl ?_
    simp (disch := omega) [upd_eq, tyNum, tyMont]
    refine callT_of pyu rfl rfl ?_
    simp (disch := omega) [upd_eq, tyNum]
    refine callT_of s6 rfl rfl ?_
    simp (disch := omega) [upd_eq, tyNum]
    refine ⟨⟨?_, ?_, ?_⟩, ⟨fun i => if i = 8 then 9 else if i = 9 then 8 else i, ?_, ?_, ?_⟩⟩
    · simp [upd_eq, ren, refsLt]
    · simp [upd_eq]
    · exact fun _ _ _ _ h => h
    · simp [upd_eq, ren, refsLt]
    · simp [upd_eq]
    · exact swap_inj 8 9 _
end Go.Proofs.Ytlpeloenigdfdaa
