/-
  Statements of limb: a number, moved; order.
-/
import Derived.Test.YtfgojdnakidifaaLaw2
set_option linter.unusedSimpArgs false
set_option linter.unusedVariables false
namespace Go.Proofs.Ytfgojdnakidifaa
open Go.Am

theorem beV_bytes : ∀ (n N : Nat), beV (fun j => byteN N (n - 1 - j)) n = N % 256 ^ n
  | 0, N => by simp [beV, Nat.mod_one]
  | n + 1, N => by
    rw [beV]
    have h1 : beV (fun j => byteN N (n + 1 - 1 - j)) n = beV (fun j => byteN (N / 256) (n - 1 - j)) n := beV_congr fun j hj => by
      simp only [byteN_def]
      rw [show 8 * (n + 1 - 1 - j) = 8 + 8 * (n - 1 - j) by omega, Nat.pow_add, ← Nat.div_div_eq_div_mul, show (2 : Nat) ^ 8 = 256 from rfl]
    rw [h1, beV_bytes n (N / 256), byteN_def]
    simp only [Nat.add_sub_cancel, Nat.sub_self, Nat.mul_zero, Nat.pow_zero, Nat.div_one]
    rw [Nat.pow_succ, Nat.mul_comm (256 ^ n) 256, Nat.mod_mul]
    omega
theorem bytesL_u8 (N : Nat) : bytesL N = famL (u8F fun j => byteN N (31 - j)) 32 := rfl
theorem beV_num {N : Nat} (h : N < W) : beV (fun j => byteN N (31 - j)) 32 = N := by
  have := beV_bytes 32 N
  rw [show (256 : Nat) ^ 32 = W from rfl, Nat.mod_eq_of_lt h] at this
  exact this
theorem u8T_ok : u8T Try.prog 5 = true := by kernel_rfl
theorem conv_bytes {h : HP} (N : Nat) : convA Try.prog ⟨1, 24, false, [.nils], .slice 5 1 false 1⟩ ⟨1, 16, false, [.str ByteArray.empty], .str⟩ h (.ro 32 (bytesL N)) = some (.str (strA (bytesL N))) :=
  conv_str (n := 32) (fun _ _ h => by cases h) (fun _ h => by cases h) rfl u8T_ok (by simp [srcA, bytesL]) (isU8_u8F _ _)
theorem str_lss {X Y : Nat} (hX : X < W) (hY : Y < W) {t : TypeId} : binA Try.prog .lss t (.str (strA (bytesL X))) (.str (strA (bytesL Y))) = some (.bool (decide (X < Y))) := by
  simp only [binA, strOpA, strA_toList, bytesL_u8]
  rw [be_less (fun _ _ => byteN_lt _ _) (fun _ _ => byteN_lt _ _), beV_num hX, beV_num hY]
theorem str_eql {X Y : Nat} (hX : X < W) (hY : Y < W) {t : TypeId} : binA Try.prog .eql t (.str (strA (bytesL X))) (.str (strA (bytesL Y))) = some (.bool (decide (X = Y))) := by
  simp only [binA, strOpA, strA_toList, bytesL_u8]
  rw [be_eq (fun _ _ => byteN_lt _ _) (fun _ _ => byteN_lt _ _), beV_num hX, beV_num hY]

theorem blen_bounds {n : Nat} (h : n ≠ 0) : 2 ^ (blen n - 1) ≤ n ∧ n < 2 ^ blen n ∧ 0 < blen n := by
  have hl := (Nat.log2_eq_iff h).1 rfl
  unfold blen
  rw [if_neg h]
  exact ⟨by simpa using hl.1, hl.2, by omega⟩

set_option maxHeartbeats 2000000 in
set_option maxRecDepth 16000 in
theorem law_LimbShift (a : Int) (f : Nat → Int) (n : Nat) (by_ : Int) :
    ASpec Try.prog 5 [.int .i64 a, .ro n (famL (i64F f) n), .int .i64 by_] (.bool true) := by
  refine ASpec.startX [5] 1000 Try.func5 (fn := Try.f5) rfl (by decide) mixed (by kernel_rfl) (by simp) ?_
  have h0W := W_big
  simp (disch := omega) [ini, upd_eq, tyNum]
  refine callT_of known rfl rfl ?_
  simp (disch := omega) [upd_eq, tyNum]
  refine callT_of (make a f n) rfl rfl ?_
  have hX := mkN_lt a f n
  generalize mkN a f n = X at *
  simp (disch := omega) [upd_eq, tyNum]
  have s1 := within by_ 31 (by decide) (by decide)
  have hz1 := Int.emod_nonneg by_ (show (31 : Int) ≠ 0 by decide)
  have hz2 := Int.emod_lt_of_pos by_ (show (0 : Int) < 31 by decide)
  obtain ⟨k, hk⟩ : ∃ k : Nat, by_ % 31 = k := ⟨(by_ % 31).toNat, by omega⟩
  rw [hk] at s1
  refine callT_of s1 rfl rfl ?_
  have hp : 2 ^ k ≤ 1073741824 := Nat.pow_le_pow_right (show 0 < 2 by decide) (show k ≤ 30 by omega)
  have hpp := Nat.two_pow_pos k
  have ecast : (2 : Int) ^ k = ((2 ^ k : Nat) : Int) := by simp
  have esh : IntKind.i64.wrap (2 ^ k) = ((2 ^ k : Nat) : Int) := by rw [ecast]; exact in_i64 (by omega) (by omega)
  have emin : min k 64 = k := by omega
  obtain ⟨L, H, hL, hH, hLH, s2⟩ := mulR hX (show 2 ^ k < W by omega)
  have s3 := fromN (2 ^ k) (by omega)
  rw [← ecast] at s3
  simp (disch := omega) [upd_eq]
  refine goT_region3 mixed 9 (by kernel_rfl) (by kernel_rfl) rfl 3
    [(7, .ptr 0 0), (8, .int .i64 (k : Nat)), (9, .ptr 1 0), (10, .ptr 2 0)]
    [(0, ⟨numL X, true⟩), (1, ⟨numL L, true⟩), (2, ⟨numL H, true⟩)] ?_ ?_
  · refine goT_run mixed 900 ?_
    simp (disch := omega) [st_eq, upd_eq, tyNum]
    have hdm : ∀ i, X * 2 ^ i / W * W + X * 2 ^ i % W = X * 2 ^ i := fun i => by rw [Nat.mul_comm]; exact Nat.div_add_mod _ _
    have hYW : ∀ i, X * 2 ^ i % W < W := fun i => Nat.mod_lt _ W_pos
    have hCb : ∀ i, X * 2 ^ i / W < 2 ^ i := fun i => Nat.div_lt_of_lt_mul (Nat.mul_lt_mul_of_pos_right hX (Nat.two_pow_pos i))
    refine goT_count (fun i => [(7, .ptr 0 0), (8, .int .i64 (k : Nat)), (9, .ptr 1 0), (10, .ptr 2 0), (11, .ptr 3 0), (12, .int .u32 (X * 2 ^ i / W : Nat)), (13, .int .i64 (i : Nat))])
      (fun i => [(0, ⟨numL X, true⟩), (1, ⟨numL L, true⟩), (2, ⟨numL H, true⟩), (3, ⟨numL (X * 2 ^ i % W), true⟩)]) 4 k ?_ ?_ ?_
    · intro i hi IH
      refine goT_round mixed 100 ?_
      have h1 := hCb i
      have h2 : 2 ^ i ≤ 1073741824 := Nat.pow_le_pow_right (show 0 < 2 by decide) (show i ≤ 30 by omega)
      have h3 := hdm i
      have h4 := hdm (i + 1)
      obtain ⟨S, c1, hS, q1, t1⟩ := addR (hYW i) (hYW i)
      have h5 : X * 2 ^ (i + 1) = 2 * (X * 2 ^ i) := by rw [Nat.pow_succ, ← Nat.mul_assoc, Nat.mul_comm]
      obtain ⟨e1, e2⟩ := uniq (A := X * 2 ^ (i + 1) % W) (A' := S) (B := X * 2 ^ (i + 1) / W) (B' := 2 * (X * 2 ^ i / W) + c1) (hYW _) hS (by
        rw [h4, h5, Nat.add_mul, Nat.mul_assoc 2]
        rcases q1 with ⟨rfl, h6⟩ | ⟨rfl, h6⟩ <;> omega)
      rw [e1, e2] at IH
      have hYi := hYW i
      generalize X * 2 ^ i / W = C at *
      generalize X * 2 ^ i % W = Y at *
      have e3 : bitsA .or .u32 ((C : Int) * 2) c1 = ((2 * C + c1 : Nat) : Int) := by
        have := bor32 (a := 2 * C) (b := c1) (by omega) (by omega)
        rw [or_add (k := 1) (by omega) (by omega)] at this
        rw [← this]
        congr 1
        omega
      simp (disch := omega) [st_eq, upd_eq, tyNum, show (i : Int) < k by omega]
      refine callT_of t1 rfl rfl ?_
      simp (disch := omega) [upd_eq, tyNum, binA_shl, in_u32, in_i64, e3]
      refine IH _ ⟨by simp [upd_eq, refsLt], by simp [upd_eq]⟩
    · refine goT_round mixed 200 ?_
      obtain ⟨e1, e2⟩ := uniq (A := X * 2 ^ k % W) (A' := L) (B := X * 2 ^ k / W) (B' := H) (hYW _) hL (by rw [hdm, hLH])
      have h1 := hCb k
      rw [e1, e2]
      rw [e2] at h1
      have hb1 := blen_le (n := X) (k := 256) hX
      simp (disch := omega) [st_eq, upd_eq, tyNum, show ¬ (k : Int) < k by omega]
      refine callT_of (bits X hX) rfl rfl ?_
      simp (disch := omega) [upd_eq, tyNum, tyU32, tyInt, eql_num, in_i64]
      refine callT_of (fromN H (by omega)) rfl rfl ?_
      by_cases hX0 : X = 0
      · have : blen X = 0 := by rw [hX0]; rfl
        simp (disch := omega) [upd_eq, tyNum, eql_num, this, resA_L Try.results5]
      · obtain ⟨b1, b2, b3⟩ := blen_bounds hX0
        by_cases hbig : blen X + k ≤ 256
        · have hfit : X * 2 ^ k < W := by
            have h6 : X * 2 ^ k < 2 ^ blen X * 2 ^ k := Nat.mul_lt_mul_of_pos_right b2 hpp
            rw [← Nat.pow_add] at h6
            exact Nat.lt_of_lt_of_le h6 (Nat.pow_le_pow_right (by decide) hbig)
          have hL2 : L = X * 2 ^ k := by rw [← e1, Nat.mod_eq_of_lt hfit]
          have hbl : blen L = blen X + k := by
            have h7 : L / 2 ^ k = X := by rw [hL2]; exact Nat.mul_div_cancel _ hpp
            have := blen_shift (n := L) (k := k) (by rw [h7]; exact hX0)
            rwa [h7] at this
          simp (disch := omega) [upd_eq, tyNum, eql_num, beqF (show ¬ (blen X : Int) = 0 by omega), in_i64, show ¬ (256 : Int) < blen X + k by omega]
          refine callT_of (bits L hL) rfl rfl ?_
          simp (disch := omega) [upd_eq, tyNum, eql_num, in_i64, hbl, resA_L Try.results5]
        · simp (disch := omega) [upd_eq, tyNum, eql_num, beqF (show ¬ (blen X : Int) = 0 by omega), in_i64, show (256 : Int) < blen X + k by omega, resA_L Try.results5]
    · exact ⟨by simp [upd_eq, refsLt, Nat.div_eq_of_lt hX], by simp [upd_eq, Nat.mod_eq_of_lt hX]⟩
  · simp (disch := omega) [upd_eq, tyNum, tyInt, tyUint, in_u64, binA_shl, emin, esh]
    refine callT_of s3 rfl rfl ?_
    simp (disch := omega) [upd_eq, tyNum]
    refine callT_of s2 rfl rfl ?_
    simp (disch := omega) [upd_eq, tyNum]
    refine ⟨⟨?_, ?_, ?_⟩, ⟨fun i => if i = 1 then 2 else if i = 2 then 1 else i, ?_, ?_, ?_⟩⟩
    · simp [upd_eq, ren, refsLt]
    · simp [upd_eq]
    · exact fun _ _ _ _ h => h
    · simp [upd_eq, ren, refsLt]
    · simp [upd_eq]
    · intro p _ q _ h
      generalize p.fst = i at *
      generalize q.fst = j at *
      (repeat' split at h) <;> omega
end Go.Proofs.Ytfgojdnakidifaa
