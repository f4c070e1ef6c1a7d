/-
  Sponge1: words that are stirred: the program's and the document's are one function of words.
-/
import Derived.Test.YtgefihgogfkjoaaGroup6
set_option linter.unusedSimpArgs false
set_option linter.unusedVariables false
namespace Go.Proofs.Ytgefihgogfkjoaa
open Go.Am

/-! ### Words -/
def u32I (f : Nat → Int) (i : Nat) : AV := .int .u32 (f i)
def w8 (f : Nat → Int) : List AV := famL (u32I f) 8
def ws (f : Nat → Int) : AV := .agg (w8 f)
@[simp] theorem w8_length (f : Nat → Int) : (w8 f).length = 8 := by simp [w8]
@[simp] theorem noRefs_w8 (f : Nat → Int) : noRefs (w8 f) = true := noRefs_famL fun _ _ => rfl
@[simp] theorem flats_w8 (f : Nat → Int) : flats (w8 f) = true := flats_famL fun _ _ => rfl
@[simp] theorem refsLts_w8 (m : Nat) (f : Nat → Int) : refsLts m (w8 f) = true := refsLts_famL fun _ _ => rfl
@[simp] theorem rens_w8 (ρ : Nat → Nat) (f : Nat → Int) : rens ρ (w8 f) = w8 f := rens_famL fun _ _ => rfl
@[simp] theorem leaf_w8 (f : Nat → Int) : (w8 f).all leafOk = true := leaf_famL fun _ _ => rfl
@[simp] theorem noRef_ws (f : Nat → Int) : noRef (ws f) = true := by simp [ws, noRef]
@[simp] theorem flat_ws (f : Nat → Int) : flat (ws f) = true := by simp [ws, flat]
@[simp] theorem cellsA_ws (f : Nat → Int) : cellsA (ws f) = some (w8 f) := (rfl)
@[simp] theorem refsLt_ws (m : Nat) (f : Nat → Int) : refsLt m (ws f) = true := by simp [ws, refsLt]
@[simp] theorem ren_ws (ρ : Nat → Nat) (f : Nat → Int) : ren ρ (ws f) = ws f := by simp [ws, ren]
@[simp] theorem view_ws (h : HP) (f : Nat → Int) : view h (ws f) = ws f := by simp [ws, view]
@[simp] theorem segA_w8 {f : Nat → Int} : segA (w8 f) 0 8 = some (ws f) := by simp [segA, ws, List.take_of_length_le]
@[simp] theorem putSeg_w8 {f g : Nat → Int} : putSeg (w8 f) 0 (w8 g) = some (w8 g) := putSeg_all (by simp)
@[simp] theorem store_ws {b : Nat} {a : Bool} {z : List AV} {td : TD} {bk : Nat → Option Blk} {nt id off : Nat} {f : Nat → Int} : storeA ⟨8, b, a, z, td⟩ ⟨bk, nt⟩ (.ptr id off) (ws f) = blkT (bk id) fun k => (putSeg k.cs off (w8 f)).map fun cs => ⟨upd bk id (some ⟨cs, k.fix⟩), nt⟩ :=
  store_agg (by simp) (by simp)
theorem w8_get {f : Nat → Int} {i : Nat} (h : i < 8) : (w8 f)[i]? = some (.int .u32 (f i)) := famL_get _ _ _ h
theorem w8_set {f : Nat → Int} {i : Nat} {v : Int} : (w8 f).set i (.int .u32 v) = w8 (upd f i v) := by
  rw [w8, famL_set]
  refine famL_congr fun j _ => ?_
  by_cases hj : j = i <;> simp [upd, u32I, hj]
theorem w8_ext {f g : Nat → Int} (h : ∀ i, i < 8 → f i = g i) : w8 f = w8 g := famL_congr fun i hi => by simp only [u32I, h i hi]
theorem w8_get0 {f : Nat → Int} : (w8 f)[0]? = some (.int .u32 (f 0)) := w8_get (by decide)
theorem w8_get1 {f : Nat → Int} : (w8 f)[1]? = some (.int .u32 (f 1)) := w8_get (by decide)
theorem w8_get2 {f : Nat → Int} : (w8 f)[2]? = some (.int .u32 (f 2)) := w8_get (by decide)
theorem w8_get3 {f : Nat → Int} : (w8 f)[3]? = some (.int .u32 (f 3)) := w8_get (by decide)
theorem w8_get4 {f : Nat → Int} : (w8 f)[4]? = some (.int .u32 (f 4)) := w8_get (by decide)
theorem w8_get5 {f : Nat → Int} : (w8 f)[5]? = some (.int .u32 (f 5)) := w8_get (by decide)
theorem w8_get6 {f : Nat → Int} : (w8 f)[6]? = some (.int .u32 (f 6)) := w8_get (by decide)
theorem w8_get7 {f : Nat → Int} : (w8 f)[7]? = some (.int .u32 (f 7)) := w8_get (by decide)
theorem tyWords : tyI Try.prog 26 = some ⟨8, 32, true, w8 fun _ => 0, .array 8 25 1 false⟩ := by kernel_rfl

/-! ### Stirring -/
def x32 (a b : Int) : Int := bitsA .xor .u32 a b
def a32 (a b : Int) : Int := IntKind.u32.wrap (a + b)
def rot (x : Int) (n : Nat) : Int := bitsA .or .u32 (IntKind.u32.wrap (x * 2 ^ n)) (x / 2 ^ (32 - n))
def qa1 (a b : Int) : Int := a32 a b
def qd1 (a b d : Int) : Int := rot (x32 d (qa1 a b)) 16
def qc1 (a b c d : Int) : Int := a32 c (qd1 a b d)
def qb1 (a b c d : Int) : Int := rot (x32 b (qc1 a b c d)) 12
def qa (a b c d : Int) : Int := a32 (qa1 a b) (qb1 a b c d)
def qd (a b c d : Int) : Int := rot (x32 (qd1 a b d) (qa a b c d)) 8
def qc (a b c d : Int) : Int := a32 (qc1 a b c d) (qd a b c d)
def qb (a b c d : Int) : Int := rot (x32 (qb1 a b c d) (qc a b c d)) 7
def quarterF (f : Nat → Int) (a b c d : Nat) : Nat → Int :=
  upd (upd (upd (upd f a (qa (f a) (f b) (f c) (f d))) b (qb (f a) (f b) (f c) (f d))) c (qc (f a) (f b) (f c) (f d))) d (qd (f a) (f b) (f c) (f d))
def roundI (r : Nat) (f : Nat → Int) : Nat → Int :=
  quarterF (quarterF (quarterF (quarterF (upd f 0 (x32 (f 0) (IntKind.u32.wrap (r : Int)))) 0 1 2 3) 4 5 6 7) 0 5 2 7) 4 1 6 3
def mixK (f : Nat → Int) : Nat → Nat → Int
  | 0 => f
  | i + 1 => roundI (i + 1) (mixK f i)
def mixI (f : Nat → Int) : Nat → Int := mixK f 8

theorem rotl (x : Int) (n : Nat) (h0 : 0 < n) (h : n < 32) : ASpec Try.prog 115 [.int .u32 x, .int .i64 (n : Nat)] (.int .u32 (rot x n)) := by
  refine ASpec.start 1000 Try.func115 (fn := Try.f115) rfl (by decide) mixed (by kernel_rfl) (by simp) ?_
  have h1 : IntKind.u64.wrap (n : Int) = n := in_u64 (by omega) (by omega)
  have h2 : bitsA .and .u64 (n : Int) 31 = n := by
    have := band64 (a := n) (b := 31) (by omega) (by omega)
    rw [show ((31 : Nat) : Int) = 31 from rfl] at this
    rw [this]
    congr 1
    rw [show (31 : Nat) = 2 ^ 5 - 1 from rfl, Nat.and_two_pow_sub_one_eq_mod]
    omega
  have h3 : IntKind.u64.wrap (32 - (n : Int)) = ((32 - n : Nat) : Int) := by rw [in_u64 (by omega) (by omega)]; omega
  have e1 : min n 32 = n := by omega
  have e2 : min (32 - n) 32 = 32 - n := by omega
  simp (disch := omega) [ini, upd_eq, tyInt, tyUint, h1, h2, h3, binA_shl, binA_shr, e1, e2, IntKind.bits, resA_L Try.results115]
  simp [rot]
theorem turn (x : Int) (n : Nat) (h0 : 0 < n) (h : n < 32) : ASpec Try.prog 111 [.int .u32 x, .int .i64 (n : Nat)] (.int .u32 (rot x n)) := by
  refine ASpec.start 1000 Try.func111 (fn := Try.f111) rfl (by decide) mixed (by kernel_rfl) (by simp) ?_
  have h1 : IntKind.u64.wrap (n : Int) = n := in_u64 (by omega) (by omega)
  have h3 : IntKind.u64.wrap (IntKind.i64.wrap (32 - (n : Int))) = ((32 - n : Nat) : Int) := by rw [in_i64 (by omega) (by omega), in_u64 (by omega) (by omega)]; omega
  have e1 : min n 32 = n := by omega
  have e2 : min (32 - n) 32 = 32 - n := by omega
  simp (disch := omega) [ini, upd_eq, tyInt, tyUint, h1, h3, binA_shl, binA_shr, e1, e2, IntKind.bits, resA_L Try.results111]
  simp [rot]
theorem x32_eq (a b : Int) : bitsA .xor .u32 a b = x32 a b := (rfl)
theorem a32_eq (a b : Int) : IntKind.u32.wrap (a + b) = a32 a b := (rfl)
theorem quarter (a b c d : Int) : ASpec Try.prog 114 [.int .u32 a, .int .u32 b, .int .u32 c, .int .u32 d] (.tup [.int .u32 (qa a b c d), .int .u32 (qb a b c d), .int .u32 (qc a b c d), .int .u32 (qd a b c d)]) := by
  refine ASpec.start 1000 Try.func114 (fn := Try.f114) rfl (by decide) mixed (by kernel_rfl) (by simp) ?_
  have r : ∀ (x : Int) (n : Nat), 0 < n → n < 32 → ASpec Try.prog 115 [.int .u32 x, .int .i64 (n : Nat)] (.int .u32 (rot x n)) := rotl
  simp (disch := omega) [ini, upd_eq, x32_eq, a32_eq]
  refine callT_of (r _ 16 (by decide) (by decide)) rfl rfl ?_
  simp (disch := omega) [upd_eq, x32_eq, a32_eq]
  refine callT_of (r _ 12 (by decide) (by decide)) rfl rfl ?_
  simp (disch := omega) [upd_eq, x32_eq, a32_eq]
  refine callT_of (r _ 8 (by decide) (by decide)) rfl rfl ?_
  simp (disch := omega) [upd_eq, x32_eq, a32_eq]
  refine callT_of (r _ 7 (by decide) (by decide)) rfl rfl ?_
  simp (disch := omega) [upd_eq, x32_eq, a32_eq, resA_L Try.results114]
  rfl
theorem fold_quarter (f : Nat → Int) (a b c d : Nat) : upd (upd (upd (upd f a (qa (f a) (f b) (f c) (f d))) b (qb (f a) (f b) (f c) (f d))) c (qc (f a) (f b) (f c) (f d))) d (qd (f a) (f b) (f c) (f d)) = quarterF f a b c d := (rfl)
theorem rquarter (f : Nat → Int) (a b c d : Nat) (ha : a < 8) (hb : b < 8) (hc : c < 8) (hd : d < 8) (h1 : a ≠ b) (h2 : a ≠ c) (h3 : a ≠ d) (h4 : b ≠ c) (h5 : b ≠ d) (h6 : c ≠ d) :
    ASpec Try.prog 104 [ws f, .int .i64 (a : Nat), .int .i64 (b : Nat), .int .i64 (c : Nat), .int .i64 (d : Nat)] (ws (quarterF f a b c d)) := by
  refine ASpec.start 1000 Try.func104 (fn := Try.f104) rfl (by decide) mixed (by kernel_rfl) (by simp) ?_
  have r : ∀ (x : Int) (n : Nat), 0 < n → n < 32 → ASpec Try.prog 111 [.int .u32 x, .int .i64 (n : Nat)] (.int .u32 (rot x n)) := turn
  have ia : (a : Int) < 8 := by omega
  have ib : (b : Int) < 8 := by omega
  have ic : (c : Int) < 8 := by omega
  have id' : (d : Int) < 8 := by omega
  have g : ∀ (f : Nat → Int), (w8 f)[a]? = some (.int .u32 (f a)) ∧ (w8 f)[b]? = some (.int .u32 (f b)) ∧ (w8 f)[c]? = some (.int .u32 (f c)) ∧ (w8 f)[d]? = some (.int .u32 (f d)) := fun f => ⟨w8_get ha, w8_get hb, w8_get hc, w8_get hd⟩
  simp (disch := omega) [ini, upd_eq, tyWords, tyU32, ia, ib, ic, id', ha, hb, hc, hd, g, store_int, w8_set, x32_eq, a32_eq, h1, h2, h3, h4, h5, h6, Ne.symm h1, Ne.symm h2, Ne.symm h3, Ne.symm h4, Ne.symm h5, Ne.symm h6]
  refine callT_of (r _ 16 (by decide) (by decide)) rfl rfl ?_
  simp (disch := omega) [upd_eq, tyWords, tyU32, ia, ib, ic, id', ha, hb, hc, hd, g, store_int, w8_set, x32_eq, a32_eq, h1, h2, h3, h4, h5, h6, Ne.symm h1, Ne.symm h2, Ne.symm h3, Ne.symm h4, Ne.symm h5, Ne.symm h6]
  refine callT_of (r _ 12 (by decide) (by decide)) rfl rfl ?_
  simp (disch := omega) [upd_eq, tyWords, tyU32, ia, ib, ic, id', ha, hb, hc, hd, g, store_int, w8_set, x32_eq, a32_eq, h1, h2, h3, h4, h5, h6, Ne.symm h1, Ne.symm h2, Ne.symm h3, Ne.symm h4, Ne.symm h5, Ne.symm h6]
  refine callT_of (r _ 8 (by decide) (by decide)) rfl rfl ?_
  simp (disch := omega) [upd_eq, tyWords, tyU32, ia, ib, ic, id', ha, hb, hc, hd, g, store_int, w8_set, x32_eq, a32_eq, h1, h2, h3, h4, h5, h6, Ne.symm h1, Ne.symm h2, Ne.symm h3, Ne.symm h4, Ne.symm h5, Ne.symm h6]
  refine callT_of (r _ 7 (by decide) (by decide)) rfl rfl ?_
  simp (disch := omega) [upd_eq, tyWords, tyU32, ia, ib, ic, id', ha, hb, hc, hd, g, store_int, w8_set, x32_eq, a32_eq, h1, h2, h3, h4, h5, h6, Ne.symm h1, Ne.symm h2, Ne.symm h3, Ne.symm h4, Ne.symm h5, Ne.symm h6, resA_L Try.results104]
  congr 1
  funext i
  by_cases k1 : i = a
  · subst k1; simp [quarterF, upd_eq, h1, h2, h3, qa, qb, qc, qd, qa1, qb1, qc1, qd1]
  · by_cases k2 : i = b
    · subst k2; simp [quarterF, upd_eq, k1, h4, h5, qa, qb, qc, qd, qa1, qb1, qc1, qd1]
    · by_cases k3 : i = c
      · subst k3; simp [quarterF, upd_eq, k1, k2, h6, qa, qb, qc, qd, qa1, qb1, qc1, qd1]
      · by_cases k4 : i = d
        · subst k4; simp [quarterF, upd_eq, k1, k2, k3, qa, qb, qc, qd, qa1, qb1, qc1, qd1]
        · simp [quarterF, upd_eq, k1, k2, k3, k4]
theorem rmix (f : Nat → Int) : ASpec Try.prog 94 [ws f] (ws (mixI f)) := by
  refine ASpec.start 1000 Try.func94 (fn := Try.f94) rfl (by decide) mixed (by kernel_rfl) (by simp) ?_
  simp (disch := omega) [ini, upd_eq, tyWords]
  refine goT_count (fun i => [(1, .ptr 0 0), (2, .ptr 1 0), (3, .int .i64 ((i + 1 : Nat) : Int))]) (fun i => [(0, ⟨w8 (mixK f i), true⟩), (1, ⟨w8 fun _ => 0, true⟩)]) 2 8 ?_ ?_ ?_
  · intro i hi IH
    refine goT_round mixed 100 ?_
    simp (disch := omega) [st_eq, upd_eq, tyWords, tyU32, tyInt, show (i : Int) + 1 ≤ 8 by omega, w8_get0, store_int, w8_set, x32_eq]
    obtain ⟨g, hg⟩ : ∃ g, g = upd (mixK f i) 0 (x32 (mixK f i 0) (IntKind.u32.wrap ((i : Int) + 1))) := ⟨_, rfl⟩
    rw [← hg]
    refine callT_of (rquarter g 0 1 2 3 (by decide) (by decide) (by decide) (by decide) (by decide) (by decide) (by decide) (by decide) (by decide) (by decide)) rfl rfl ?_
    simp (disch := omega) [upd_eq]
    refine callT_of (rquarter _ 4 5 6 7 (by decide) (by decide) (by decide) (by decide) (by decide) (by decide) (by decide) (by decide) (by decide) (by decide)) rfl rfl ?_
    simp (disch := omega) [upd_eq]
    refine callT_of (rquarter _ 0 5 2 7 (by decide) (by decide) (by decide) (by decide) (by decide) (by decide) (by decide) (by decide) (by decide) (by decide)) rfl rfl ?_
    simp (disch := omega) [upd_eq]
    refine callT_of (rquarter _ 4 1 6 3 (by decide) (by decide) (by decide) (by decide) (by decide) (by decide) (by decide) (by decide) (by decide) (by decide)) rfl rfl ?_
    simp (disch := omega) [upd_eq, tyWords, in_i64]
    refine IH _ ⟨by simp [upd_eq, refsLt], ?_⟩
    simp [upd_eq]
    rw [hg]
    rfl
  · refine goT_round mixed 100 ?_
    simp (disch := omega) [st_eq, upd_eq, tyWords, resA_L Try.results94]
    rfl
  · exact ⟨by simp [upd_eq, refsLt], by simp [upd_eq, mixK]⟩
theorem mix (f : Nat → Int) : ASpec Try.prog 113 [ws f] (ws (mixI f)) := by
  refine ASpec.start 1000 Try.func113 (fn := Try.f113) rfl (by decide) mixed (by kernel_rfl) (by simp) ?_
  simp (disch := omega) [ini, upd_eq, tyWords]
  refine goT_count (fun i => [(1, .ptr 0 0), (2, .ptr 1 0), (3, .int .i64 ((i + 1 : Nat) : Int))]) (fun i => [(0, ⟨w8 (mixK f i), true⟩), (1, ⟨w8 fun _ => 0, true⟩)]) 2 8 ?_ ?_ ?_
  · intro i hi IH
    refine goT_round mixed 100 ?_
    simp (disch := omega) [st_eq, upd_eq, tyWords, tyU32, tyInt, show (i : Int) + 1 ≤ 8 by omega, w8_get0, w8_get1, w8_get2, w8_get3, store_int, w8_set, x32_eq]
    obtain ⟨g, hg⟩ : ∃ g, g = upd (mixK f i) 0 (x32 (mixK f i 0) (IntKind.u32.wrap ((i : Int) + 1))) := ⟨_, rfl⟩
    have hgi : ∀ j, j ≠ 0 → mixK f i j = g j := fun j hj => by rw [hg, upd_other _ _ _ _ hj]
    have hg0 : x32 (mixK f i 0) (IntKind.u32.wrap ((i : Int) + 1)) = g 0 := by rw [hg, upd_same]
    rw [← hg, hg0, hgi 1 (by decide), hgi 2 (by decide), hgi 3 (by decide)]
    refine callT_of (quarter _ _ _ _) rfl rfl ?_
    simp (disch := omega) [upd_eq, tyWords, tyU32, store_int, w8_set, fold_quarter, w8_get4, w8_get5, w8_get6, w8_get7]
    refine callT_of (quarter _ _ _ _) rfl rfl ?_
    simp (disch := omega) [upd_eq, tyWords, tyU32, store_int, w8_set, fold_quarter, w8_get0, w8_get5, w8_get2, w8_get7]
    refine callT_of (quarter _ _ _ _) rfl rfl ?_
    simp (disch := omega) [upd_eq, tyWords, tyU32, store_int, w8_set, fold_quarter, w8_get4, w8_get1, w8_get6, w8_get3]
    refine callT_of (quarter _ _ _ _) rfl rfl ?_
    simp (disch := omega) [upd_eq, tyWords, tyU32, store_int, w8_set, fold_quarter, tyInt, in_i64]
    refine IH _ ⟨by simp [upd_eq, refsLt], ?_⟩
    simp [upd_eq]
    rw [hg]
    rfl
  · refine goT_round mixed 100 ?_
    simp (disch := omega) [st_eq, upd_eq, tyWords, resA_L Try.results113]
    rfl
  · exact ⟨by simp [upd_eq, refsLt], by simp [upd_eq, mixK]⟩
end Go.Proofs.Ytgefihgogfkjoaa
