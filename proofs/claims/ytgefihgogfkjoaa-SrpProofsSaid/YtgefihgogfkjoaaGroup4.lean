import Derived.Test.YtgefihgogfkjoaaGroup3
set_option linter.unusedSimpArgs false
set_option linter.unusedVariables false
/-! Contracts: powers, products, what a group has. -/
namespace Go.Proofs.Ytgefihgogfkjoaa
open Go.Am

theorem within4 (x y : Int) (hy : 0 < y) (hy2 : y < 9223372036854775808) : ASpec Try.prog 40 [.int .i64 x, .int .i64 y] (.int .i64 (x % y)) := by
  refine ASpec.start 1000 Try.func40 (fn := Try.f40) rfl (by decide) mixed (by kernel_rfl) (by simp) ?_
  have h := tmod_within (x := x) hy
  have h1 := Int.emod_nonneg x (show y ≠ 0 by omega)
  have h2 := Int.emod_lt_of_pos x hy
  by_cases hc : x.tmod y < 0
  · rw [if_pos hc] at h
    simp (disch := omega) [ini, upd_eq, binA_remZ, hc, h, in_i64, resA_L Try.results40]
  · rw [if_neg hc] at h
    simp (disch := omega) [ini, upd_eq, binA_remZ, show ¬ x % y < 0 by omega, h, resA_L Try.results40]
theorem within4N (x : Int) (y : Nat) (hy : 0 < y) (hy2 : y < 9223372036854775808) : ∃ k : Nat, k < y ∧ x % (y : Int) = k ∧ ASpec Try.prog 40 [.int .i64 x, .int .i64 (y : Nat)] (.int .i64 (k : Nat)) := by
  have h := within4 x y (by omega) (by omega)
  have h1 := Int.emod_nonneg x (show (y : Int) ≠ 0 by omega)
  have h2 := Int.emod_lt_of_pos x (show (0 : Int) < y by omega)
  obtain ⟨k, hk⟩ : ∃ k : Nat, x % (y : Int) = k := ⟨(x % (y : Int)).toNat, by omega⟩
  rw [hk] at h
  exact ⟨k, by omega, hk, h⟩
theorem limb_small2 {n : Nat} (h : n < 4294967296) : limb n 0 = n ∧ limb n 1 = 0 := by
  refine ⟨?_, ?_⟩
  · rw [limb_def]; omega
  · rw [limb_def]; omega
theorem bor_i64 {n : Nat} (h : n < 4294967296) : bitsA .or .i64 (n : Nat) 0 = (n : Nat) := by
  have h1 : (BitVec.ofInt 64 (n : Int)).toNat = n := ofInt_nat (by omega)
  have h2 : (BitVec.ofInt 64 (0 : Int)).toNat = 0 := rfl
  have h3 : IntKind.i64.wrap (n : Int) = n := in_i64 (by omega) (by omega)
  show IntKind.i64.wrap (((BitVec.ofInt 64 (n : Int) ||| BitVec.ofInt 64 (0 : Int)).toNat : Nat) : Int) = _
  rw [BitVec.toNat_or, h1, h2, Nat.or_zero, h3]
theorem rsmall {n : Nat} (h : n < 4294967296) : ASpec Try.prog 28 [num n] (.int .i64 (n : Nat)) := by
  refine ASpec.start 1000 Try.func28 (fn := Try.f28) rfl (by decide) mixed (by kernel_rfl) (by simp) ?_
  obtain ⟨h1, h2⟩ := limb_small2 h
  have h3 := bor_i64 h
  simp (disch := omega) [ini, upd_eq, tyNum, tyU32, tyInt, numL_get, limbA_def, h1, h2, in_i64, binA_shl, h3, resA_L Try.results28]
theorem rleft {a m : Nat} (ha : a < W) (h0 : 0 < m) (hm : m < 2147483648) : ASpec Try.prog 64 [num a, .int .i64 (m : Nat)] (.int .i64 (a % m : Nat)) := by
  have hr := Nat.mod_lt a h0
  obtain ⟨r, hR⟩ : ∃ r, a % m = r := ⟨_, rfl⟩
  rw [hR] at hr ⊢
  refine ASpec.start 1000 Try.func64 (fn := Try.f64) rfl (by decide) mixed (by kernel_rfl) (by simp) ?_
  have h0W : 0 < W := W_pos
  have hmW := W_31 hm
  simp (disch := omega) [ini, upd_eq, tyNum]
  refine callT_of (rfromN m (by omega)) rfl rfl ?_
  simp (disch := omega) [upd_eq, tyNum]
  have s1 := rrestN (lo := a) (hi := 0) ha h0W hmW (by omega)
  rw [Nat.zero_mul, Nat.zero_add, hR] at s1
  refine callT_of s1 rfl rfl ?_
  simp (disch := omega) [upd_eq, tyNum]
  refine callT_of (rsmall (show r < 4294967296 by omega)) rfl rfl ?_
  simp (disch := omega) [upd_eq, tyNum, resA_L Try.results64]
theorem graise {B : Int} {P Q G a e : Nat} (ha : a < W) (he : e < W) (hP : P < W) (ho : P % 2 = 1) (h1 : P ≠ 1) : ASpec Try.prog 41 [group B P Q G, num a, num e] (num (a ^ e % P)) := by
  refine ASpec.start 1000 Try.func41 (fn := Try.f41) rfl (by decide) mixed (by kernel_rfl) (by simp) ?_
  simp (disch := omega) [ini, upd_eq, tyNum, tyGroup]
  have s1 := make_mont hP ho h1
  unfold mkM at s1
  refine callT_of s1 rfl rfl ?_
  simp (disch := omega) [upd_eq, tyNum, tyMont, tyGroup]
  refine callT_of (pow_ ha he hP ho) rfl rfl ?_
  simp (disch := omega) [upd_eq, tyNum, resA_L Try.results41]
theorem rraise {B : Int} {P Q G a e : Nat} (ha : a < W) (he : e < W) (hP : P < 2147483648) (h2 : 2 ≤ P) : ASpec Try.prog 25 [group B P Q G, num a, num e] (num (a ^ e % P)) := by
  refine ASpec.start 1000 Try.func25 (fn := Try.f25) rfl (by decide) mixed (by kernel_rfl) (by simp) ?_
  simp (disch := omega) [ini, upd_eq, tyNum, tyGroup]
  refine callT_of (rsmall (show P < 4294967296 by omega)) rfl rfl ?_
  simp (disch := omega) [upd_eq, tyNum, tyGroup]
  refine callT_of (rleft ha (show 0 < P by omega) hP) rfl rfl ?_
  simp (disch := omega) [upd_eq, tyNum, tyGroup]
  refine callT_of (rbits e he) rfl rfl ?_
  have hb256 := blen_le (n := e) (k := 256) he
  have hw : IntKind.i64.wrap ((blen e : Int) - 1) = (blen e : Int) - 1 := in_i64 (by omega) (by omega)
  simp (disch := omega) [upd_eq, tyNum, hw]
  refine goT_down (X := Nat) (fun i => i) (fun i => [(5, .ptr 2 0), (6, .ptr 3 0), (7, .int .i64 (P : Nat)), (8, .int .i64 ((a ^ (e / 2 ^ i) % P : Nat) : Int)), (9, .int .i64 ((a % P : Nat) : Int)), (10, .int .i64 ((i : Int) - 1))])
    (fun i => [(2, ⟨numL e, true⟩), (3, ⟨numL 0, true⟩)]) 4
    (fun i => i ≤ 256) ?_ (blen e) hb256 ⟨by simp [upd_eq, refsLt, blen_top, Nat.mod_eq_of_lt (show 1 < P by omega)], by simp [upd_eq]⟩
  intro i hi IH
  refine goT_round mixed 100 ?_
  have hPm : ∀ x : Nat, x % P < P := fun x => Nat.mod_lt x (by omega)
  cases i with
  | zero =>
    have hz := hPm (a ^ (e / 2 ^ 0))
    rw [Nat.pow_zero, Nat.div_one] at *
    generalize hR : a ^ e % P = R at *
    simp (disch := omega) [st_eq, upd_eq, tyNum]
    refine callT_of (rfromN R (by omega)) rfl rfl ?_
    simp (disch := omega) [upd_eq, tyNum, resA_L Try.results25]
  | succ i =>
    have hq : i / 32 < 8 := by omega
    have e1 : ((i : Int) / 32).toNat = i / 32 := by omega
    have e2 : ((i : Int) % 32).toNat = i % 32 := by omega
    have e3 : min (i % 32) 32 = i % 32 := by omega
    have hbi := bitN_le e i
    have hst := pow_bit a e i
    have hIH := IH i
    have hx := hPm (a ^ (e / 2 ^ (i + 1)))
    have hy := hPm a
    have hsq : (a ^ (e / 2 ^ (i + 1)) % P) * (a ^ (e / 2 ^ (i + 1)) % P) % P = a ^ (e / 2 ^ (i + 1)) * a ^ (e / 2 ^ (i + 1)) % P := (Nat.mul_mod _ _ _).symm
    have hml : (a ^ (e / 2 ^ (i + 1)) * a ^ (e / 2 ^ (i + 1)) % P) * (a % P) % P = a ^ (e / 2 ^ (i + 1)) * a ^ (e / 2 ^ (i + 1)) * a % P := (Nat.mul_mod _ _ _).symm
    rw [← hsq] at hml
    generalize hX : a ^ (e / 2 ^ (i + 1)) % P = X at *
    generalize hY : a % P = Y at *
    have hz := hPm (X * X)
    have hXX : X * X ≤ 2147483648 * 2147483648 := Nat.mul_le_mul (by omega) (by omega)
    have hc1 : IntKind.i64.wrap ((X : Int) * X) = ((X * X : Nat) : Int) := by rw [← Int.natCast_mul]; exact in_i64 (by omega) (by omega)
    obtain ⟨S, hS⟩ : ∃ S, X * X = S := ⟨_, rfl⟩
    rw [hS] at hc1 hXX hz hml hsq
    have hc2 : ((S : Int) % (P : Int)) = ((S % P : Nat) : Int) := (Int.natCast_emod _ _).symm
    generalize hZ : S % P = Z at *
    have hZY : Z * Y ≤ 2147483648 * 2147483648 := Nat.mul_le_mul (by omega) (by omega)
    have hc3 : IntKind.i64.wrap ((Z : Int) * Y) = ((Z * Y : Nat) : Int) := by rw [← Int.natCast_mul]; exact in_i64 (by omega) (by omega)
    obtain ⟨T, hT⟩ : ∃ T, Z * Y = T := ⟨_, rfl⟩
    rw [hT] at hc3 hZY hml
    have hc4 : ((T : Int) % (P : Int)) = ((T % P : Nat) : Int) := (Int.natCast_emod _ _).symm
    have hz2 := hPm T
    generalize hV : T % P = V at *
    by_cases hb : bitN e i = 1
    · rw [if_pos hb] at hst
      rw [hst, ← hml] at hIH
      simp (disch := omega) [st_eq, upd_eq, tyNum, hc1, hc2, tyU32, tyInt, tyUint, in_u64, binA_quo, binA_rem, binA_shr, in_i64, e1, e2, e3, numL_get hq, limbA_def, bit_eq, show (i : Int) / 32 < 8 by omega, show 0 ≤ (i : Int) / 32 by omega, hb, hc3, hc4]
      exact hIH _ (by omega) (by omega) ⟨by simp [upd_eq, refsLt], by simp [upd_eq]⟩
    · rw [if_neg hb, Nat.mul_one] at hst
      rw [hst, ← hsq] at hIH
      simp (disch := omega) [st_eq, upd_eq, tyNum, hc1, hc2, tyU32, tyInt, tyUint, in_u64, binA_quo, binA_rem, binA_shr, in_i64, e1, e2, e3, numL_get hq, limbA_def, bit_eq, show (i : Int) / 32 < 8 by omega, show 0 ≤ (i : Int) / 32 by omega, show bitN e i = 0 by omega]
      exact hIH _ (by omega) (by omega) ⟨by simp [upd_eq, refsLt], by simp [upd_eq]⟩
theorem gmulR {X Y : Nat} (hX : X < W) (hY : Y < W) : ∃ L H, L < W ∧ H < W ∧ H * W + L = X * Y ∧ ASpec Try.prog 59 [num X, num Y] (.tup [num L, num H]) := by
  refine ⟨_, _, Nat.mod_lt _ W_pos, ?_, ?_, mul X Y hX hY⟩
  · exact Nat.div_lt_of_lt_mul (Nat.mul_lt_mul_of_lt_of_le hX (Nat.le_of_lt hY) W_pos)
  · rw [Nat.mul_comm]; exact Nat.div_add_mod _ _
theorem gtimes {B : Int} {P Q G a b : Nat} (ha : a < W) (hb : b < W) (hP : P < W) (h0 : P ≠ 0) : ASpec Try.prog 48 [group B P Q G, num a, num b] (num (a * b % P)) := by
  refine ASpec.start 1000 Try.func48 (fn := Try.f48) rfl (by decide) mixed (by kernel_rfl) (by simp) ?_
  simp (disch := omega) [ini, upd_eq, tyNum, tyGroup]
  obtain ⟨L, H, hL, hH, hLH, s1⟩ := gmulR ha hb
  refine callT_of s1 rfl rfl ?_
  simp (disch := omega) [upd_eq, tyNum, tyGroup]
  have s2 := restN_ hL hH hP h0
  rw [hLH] at s2
  refine callT_of s2 rfl rfl ?_
  simp (disch := omega) [upd_eq, tyNum, resA_L Try.results48]
theorem rtimes {B : Int} {P Q G a b : Nat} (ha : a < W) (hb : b < W) (hP : P < 2147483648) (h0 : 0 < P) : ASpec Try.prog 35 [group B P Q G, num a, num b] (num (a * b % P)) := by
  refine ASpec.start 1000 Try.func35 (fn := Try.f35) rfl (by decide) mixed (by kernel_rfl) (by simp) ?_
  simp (disch := omega) [ini, upd_eq, tyNum, tyGroup]
  refine callT_of (rsmall (show P < 4294967296 by omega)) rfl rfl ?_
  simp (disch := omega) [upd_eq, tyNum, tyGroup]
  have s1 := rleft ha h0 hP
  have s2 := rleft hb h0 hP
  have hx := Nat.mod_lt a h0
  have hy := Nat.mod_lt b h0
  rw [Nat.mul_mod]
  generalize a % P = X at *
  generalize b % P = Y at *
  have hXY : X * Y ≤ 2147483648 * 2147483648 := Nat.mul_le_mul (by omega) (by omega)
  have hc1 : IntKind.i64.wrap ((X : Int) * Y) = ((X * Y : Nat) : Int) := by rw [← Int.natCast_mul]; exact in_i64 (by omega) (by omega)
  obtain ⟨T, hT⟩ : ∃ T, X * Y = T := ⟨_, rfl⟩
  rw [hT] at hc1 hXY ⊢
  have hc2 : ((T : Int) % (P : Int)) = ((T % P : Nat) : Int) := (Int.natCast_emod _ _).symm
  have hz := Nat.mod_lt T h0
  generalize hV : T % P = V at *
  refine callT_of s1 rfl rfl ?_
  simp (disch := omega) [upd_eq, tyNum, tyGroup]
  refine callT_of s2 rfl rfl ?_
  simp (disch := omega) [upd_eq, tyNum, tyGroup, hc1, hc2, binA_rem]
  refine callT_of (rfromN V (by omega)) rfl rfl ?_
  simp (disch := omega) [upd_eq, tyNum, resA_L Try.results35]
/-- what a group has -/
def HasP (P Q a : Nat) : Prop := 1 < a ∧ a < P ∧ a ^ Q % P = 1
theorem hasP_sq {q a : Nat} (hp : PrimeN (2 * q + 1)) (h1 : 1 < a * a % (2 * q + 1)) : HasP (2 * q + 1) q (a * a % (2 * q + 1)) := by
  refine ⟨h1, Nat.mod_lt _ (by omega), ?_⟩
  have hz : a % (2 * q + 1) ≠ 0 := fun h => by rw [Nat.mul_mod, h] at h1; simp at h1
  have h := fermat hp hz
  rw [show 2 * q + 1 - 1 = 2 * q by omega, Nat.pow_mul, Nat.pow_two] at h
  rw [← Nat.pow_mod]
  exact h
theorem cmpZ_gt {a b : Nat} : 0 < cmpZ a b ↔ b < a := by
  unfold cmpZ; split
  · omega
  · split <;> omega
theorem cmpZ_lt {a b : Nat} : cmpZ a b < 0 ↔ a < b := by
  unfold cmpZ; split
  · omega
  · split <;> omega
open Classical in
theorem ghas {B : Int} {P Q G a : Nat} (ha : a < W) (hQ : Q < W) (hP : P < W) (ho : P % 2 = 1) (h1 : P ≠ 1) : ASpec Try.prog 45 [group B P Q G, num a] (.bool (decide (HasP P Q a))) := by
  refine ASpec.start 1000 Try.func45 (fn := Try.f45) rfl (by decide) mixed (by kernel_rfl) (by simp) ?_
  have h1W : 1 < W := by have := W_big; omega
  simp (disch := omega) [ini, upd_eq, tyNum, tyGroup]
  refine callT_of (fromN 1 (by omega)) rfl rfl ?_
  simp (disch := omega) [upd_eq, tyNum, tyGroup]
  refine callT_of (cmp a 1 ha h1W) rfl rfl ?_
  by_cases c1 : 1 < a
  case neg =>
    have hh : ¬ HasP P Q a := fun h => c1 h.1
    have := mt cmpZ_gt.1 c1
    simp (disch := omega) [upd_eq, tyNum, tyGroup, this, hh, resA_L Try.results45]
  have k1 := cmpZ_gt.2 c1
  simp (disch := omega) [upd_eq, tyNum, tyGroup, k1]
  refine callT_of (cmp a P ha hP) rfl rfl ?_
  by_cases c2 : a < P
  case neg =>
    have hh : ¬ HasP P Q a := fun h => c2 h.2.1
    have := mt cmpZ_lt.1 c2
    simp (disch := omega) [upd_eq, tyNum, tyGroup, this, hh, resA_L Try.results45]
  have k2 := cmpZ_lt.2 c2
  simp (disch := omega) [upd_eq, tyNum, tyGroup, k2]
  refine callT_of (graise ha hQ hP ho h1) rfl rfl ?_
  have hh : HasP P Q a ↔ a ^ Q % P = 1 := ⟨fun h => h.2.2, fun h => ⟨c1, c2, h⟩⟩
  have hz := Nat.mod_lt (a ^ Q) (show 0 < P by omega)
  generalize a ^ Q % P = R at *
  simp (disch := omega) [upd_eq, tyNum, tyGroup, eql_num, hh, resA_L Try.results45]
open Classical in
theorem rhas {B : Int} {P Q G a : Nat} (ha : a < W) (hQ : Q < W) (hP : P < 2147483648) (h2 : 2 ≤ P) : ASpec Try.prog 29 [group B P Q G, num a] (.bool (decide (HasP P Q a))) := by
  refine ASpec.start 1000 Try.func29 (fn := Try.f29) rfl (by decide) mixed (by kernel_rfl) (by simp) ?_
  have h1W : 1 < W := by have := W_big; omega
  have hPW := W_31 hP
  simp (disch := omega) [ini, upd_eq, tyNum, tyGroup]
  refine callT_of (rfromN 1 (by omega)) rfl rfl ?_
  simp (disch := omega) [upd_eq, tyNum, tyGroup]
  refine callT_of (rcmp a 1 ha h1W) rfl rfl ?_
  by_cases c1 : 1 < a
  case neg =>
    have hh : ¬ HasP P Q a := fun h => c1 h.1
    have := mt cmpZ_gt.1 c1
    simp (disch := omega) [upd_eq, tyNum, tyGroup, this, hh, resA_L Try.results29]
  have k1 := cmpZ_gt.2 c1
  simp (disch := omega) [upd_eq, tyNum, tyGroup, k1]
  refine callT_of (rcmp a P ha hPW) rfl rfl ?_
  by_cases c2 : a < P
  case neg =>
    have hh : ¬ HasP P Q a := fun h => c2 h.2.1
    have := mt cmpZ_lt.1 c2
    simp (disch := omega) [upd_eq, tyNum, tyGroup, this, hh, resA_L Try.results29]
  have k2 := cmpZ_lt.2 c2
  simp (disch := omega) [upd_eq, tyNum, tyGroup, k2]
  refine callT_of (rraise ha hQ hP h2) rfl rfl ?_
  have hh : HasP P Q a ↔ a ^ Q % P = 1 := ⟨fun h => h.2.2, fun h => ⟨c1, c2, h⟩⟩
  have hz := Nat.mod_lt (a ^ Q) (show 0 < P by omega)
  generalize a ^ Q % P = R at *
  simp (disch := omega) [upd_eq, tyNum, tyGroup]
  refine callT_of (rfromN 1 (by omega)) rfl rfl ?_
  simp (disch := omega) [upd_eq, tyNum, tyGroup, eql_num, hh, resA_L Try.results29]

def nineL : List AV := [.int .i64 12, .int .i64 13, .int .i64 14, .int .i64 15, .int .i64 16, .int .i64 17, .int .i64 18, .int .i64 20, .int .i64 24]
@[simp] theorem nineL_length : nineL.length = 9 := rfl
theorem build9 {bk : Nat → Option Blk} {nt : Nat} : buildSliceA Try.prog ⟨1, 24, false, [.nils], .slice 3 1 false 8⟩ ⟨bk, nt⟩ 9 [(0, .int .i64 12), (1, .int .i64 13), (2, .int .i64 14), (3, .int .i64 15), (4, .int .i64 16), (5, .int .i64 17), (6, .int .i64 18), (7, .int .i64 20), (8, .int .i64 24)] = some (.sl nt 0 1 9, ⟨upd bk nt (some ⟨nineL, true⟩), nt + 1⟩) := by
  simp only [buildSliceA, tyInt]
  rfl
theorem group_at (n : Int) {i k q N : Nat} (hs : Safe k q N) (h1 : 12 ≤ k) (h2 : k ≤ 31) (hi : i < 9) (hv : nineL[i]? = some (.int .i64 (k : Nat))) (s : ASpec Try.prog 40 [.int .i64 n, .int .i64 9] (.int .i64 (i : Nat))) : ASpec Try.prog 13 [.int .i64 n] (group k (2 * q + 1) q 4) := by
  refine ASpec.start 1000 Try.func13 (fn := Try.f13) rfl (by decide) mixed (by kernel_rfl) (by simp) ?_
  simp (disch := omega) [ini, upd_eq, tyNum, tyGroup, tyInts, build9]
  refine callT_of s rfl rfl ?_
  simp (disch := omega) [upd_eq, tyNum, tyGroup, tyInts, tyInt, hv, show (i : Int) < 9 by omega]
  refine callT_of (rgmake hs h1 h2) rfl (by simp [noRef, noRefs]) ?_
  simp (disch := omega) [upd_eq, tyNum, tyGroup, resA_L Try.results13]
theorem group_ (n : Int) : ∃ k q N, Safe k q N ∧ k ≤ 31 ∧ ASpec Try.prog 13 [.int .i64 n] (group k (2 * q + 1) q 4) := by
  obtain ⟨i, hi, -, s⟩ := within4N n 9 (by decide) (by decide)
  have key : ∀ k : Nat, 12 ≤ k → k ≤ 31 → nineL[i]? = some (.int .i64 (k : Nat)) → ∃ k q N, Safe k q N ∧ k ≤ 31 ∧ ASpec Try.prog 13 [.int .i64 n] (group k (2 * q + 1) q 4) := by
    intro k h1 h2 hv
    obtain ⟨q, N, hs⟩ := safe_all h1 h2
    exact ⟨k, q, N, hs, h2, group_at n hs h1 h2 hi hv s⟩
  rcases (by omega : i = 0 ∨ i = 1 ∨ i = 2 ∨ i = 3 ∨ i = 4 ∨ i = 5 ∨ i = 6 ∨ i = 7 ∨ i = 8) with h | h | h | h | h | h | h | h | h <;> rw [h] at key
  · exact key 12 (by decide) (by decide) rfl
  · exact key 13 (by decide) (by decide) rfl
  · exact key 14 (by decide) (by decide) rfl
  · exact key 15 (by decide) (by decide) rfl
  · exact key 16 (by decide) (by decide) rfl
  · exact key 17 (by decide) (by decide) rfl
  · exact key 18 (by decide) (by decide) rfl
  · exact key 20 (by decide) (by decide) rfl
  · exact key 24 (by decide) (by decide) rfl
end Go.Proofs.Ytgefihgogfkjoaa
