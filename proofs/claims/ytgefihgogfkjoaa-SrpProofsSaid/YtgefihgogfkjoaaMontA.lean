/-
  MontA: Mont1, Mont2, Mont3, Mont4, Mont5, Mont6, Mont7, Mont8
-/
import Derived.Test.YtgefihgogfkjoaaLimbA
set_option linter.unusedSimpArgs false
set_option linter.unusedVariables false
/-! Numbers by a modulus: halving, powers, inverses. -/
namespace Go.Proofs.Ytgefihgogfkjoaa
open Go.Am

/-- the same, by m -/
def Mq (m a b : Nat) : Prop := a % m = b % m
theorem Mq.refl {m : Nat} (a : Nat) : Mq m a a := rfl
theorem Mq.symm {m a b : Nat} (h : Mq m a b) : Mq m b a := Eq.symm h
theorem Mq.trans {m a b c : Nat} (h : Mq m a b) (k : Mq m b c) : Mq m a c := Eq.trans h k
theorem Mq.of_eq {m a b : Nat} (h : a = b) : Mq m a b := by rw [h]; rfl
theorem Mq.mul {m a b c d : Nat} (h : Mq m a b) (k : Mq m c d) : Mq m (a * c) (b * d) := by
  unfold Mq at *
  rw [Nat.mul_mod, h, k, ← Nat.mul_mod]
theorem Mq.add {m a b c d : Nat} (h : Mq m a b) (k : Mq m c d) : Mq m (a + c) (b + d) := by
  unfold Mq at *
  rw [Nat.add_mod, h, k, ← Nat.add_mod]
theorem Mq.mod {m : Nat} (a : Nat) : Mq m (a % m) a := Nat.mod_mod _ _
theorem Mq.add_mul {m a k : Nat} : Mq m (a + m * k) a := Nat.add_mul_mod_self_left _ _ _
theorem Mq.pow {m a b : Nat} (h : Mq m a b) : ∀ n, Mq m (a ^ n) (b ^ n)
  | 0 => rfl
  | n + 1 => by rw [Nat.pow_succ, Nat.pow_succ]; exact (Mq.pow h n).mul h
theorem Mq.dvd {m a b : Nat} (hab : a ≤ b) : Mq m a b ↔ m ∣ b - a := by
  constructor
  · intro h
    have h : b % m = a % m := h.symm
    exact Nat.dvd_of_mod_eq_zero (Nat.sub_mod_eq_zero_of_mod_eq h)
  · rintro ⟨k, hk⟩
    have : b = a + m * k := by omega
    rw [this]; exact Mq.add_mul.symm
theorem Mq.cancel {m a b c : Nat} (hc : Nat.Coprime m c) (h : Mq m (a * c) (b * c)) : Mq m a b := by
  have key : ∀ a b : Nat, a ≤ b → Mq m (a * c) (b * c) → Mq m a b := fun a b hab h => by
    rw [Mq.dvd (Nat.mul_le_mul_right c hab), ← Nat.sub_mul] at h
    exact (Mq.dvd hab).2 (hc.dvd_of_dvd_mul_right h)
  rcases Nat.le_total a b with h1 | h1
  · exact key a b h1 h
  · exact (key b a h1 h.symm).symm
theorem Mq.eq {m a b : Nat} (h : Mq m a b) (ha : a < m) (hb : b < m) : a = b := by
  unfold Mq at h
  rwa [Nat.mod_eq_of_lt ha, Nat.mod_eq_of_lt hb] at h
theorem Mq.add_cancel {m a b c : Nat} (h : Mq m (a + c) (b + c)) : Mq m a b := by
  rcases Nat.le_total a b with h1 | h1
  · rw [Mq.dvd (by omega), show b + c - (a + c) = b - a by omega] at h
    exact (Mq.dvd h1).2 h
  · have h := h.symm
    rw [Mq.dvd (by omega), show a + c - (b + c) = a - b by omega] at h
    exact ((Mq.dvd h1).2 h).symm

/-! ### Halves -/
def halfN (M x : Nat) : Nat := if x % 2 = 0 then x / 2 else (x + M) / 2
def hiter (M : Nat) : Nat → Nat → Nat
  | 0, x => x
  | n + 1, x => hiter M n (halfN M x)
theorem half_lt {M x : Nat} (hx : x < M) : halfN M x < M := by unfold halfN; split <;> omega
theorem half_two {M x : Nat} (hM : M % 2 = 1) : Mq M (halfN M x * 2) x := by
  unfold halfN
  split
  · exact Mq.of_eq (by omega)
  · rw [show (x + M) / 2 * 2 = x + M * 1 by omega]; exact Mq.add_mul
theorem hiter_spec {M : Nat} (hM : M % 2 = 1) : ∀ n x, x < M → hiter M n x < M ∧ Mq M (hiter M n x * 2 ^ n) x
  | 0, x, hx => ⟨hx, by rw [hiter, Nat.pow_zero, Nat.mul_one]; rfl⟩
  | n + 1, x, hx => by
    obtain ⟨h1, h2⟩ := hiter_spec hM n (halfN M x) (half_lt hx)
    refine ⟨h1, ?_⟩
    rw [hiter, Nat.pow_succ, ← Nat.mul_assoc]
    exact (h2.mul (Mq.refl 2)).trans (half_two hM)
def redc (M X : Nat) : Nat := hiter M 256 (X % M)
theorem odd_pos {M : Nat} (hM : M % 2 = 1) : 0 < M := by omega
theorem redc_lt {M : Nat} (hM : M % 2 = 1) (X : Nat) : redc M X < M := (hiter_spec hM 256 _ (Nat.mod_lt _ (odd_pos hM))).1
theorem redc_W {M : Nat} (hM : M % 2 = 1) (X : Nat) : Mq M (redc M X * W) X := (hiter_spec hM 256 _ (Nat.mod_lt _ (odd_pos hM))).2.trans (Mq.mod X)
theorem cop_W {M : Nat} (hM : M % 2 = 1) : Nat.Coprime M W := by
  have h2 : Nat.Coprime M 2 := by
    have h := Nat.gcd_dvd_right M 2
    have h3 := Nat.gcd_dvd_left M 2
    have h4 : Nat.gcd M 2 ≤ 2 := Nat.le_of_dvd (by decide) h
    have h5 : Nat.gcd M 2 ≠ 0 := fun h0 => by rw [h0] at h; simp at h
    rcases (by omega : Nat.gcd M 2 = 1 ∨ Nat.gcd M 2 = 2) with h6 | h6
    · exact h6
    · rw [h6] at h3; omega
  exact Nat.Coprime.pow_right 256 h2
theorem redc_uniq {M : Nat} (hM : M % 2 = 1) {r X : Nat} (hr : r < M) (h : Mq M (r * W) X) : r = redc M X :=
  Mq.eq (Mq.cancel (cop_W hM) (h.trans (redc_W hM X).symm)) hr (redc_lt hM X)
theorem redc_congr {M X Y : Nat} (h : Mq M X Y) : redc M X = redc M Y := by unfold redc; rw [h]

/-- a number times 2^256, by M -/
def mm (M a : Nat) : Nat := a * W % M
theorem mm_lt {M : Nat} (hM : M % 2 = 1) (a : Nat) : mm M a < M := Nat.mod_lt _ (odd_pos hM)
theorem mm_congr {M a b : Nat} (h : Mq M a b) : mm M a = mm M b := h.mul (Mq.refl W)
theorem mm_mul {M : Nat} (hM : M % 2 = 1) (a b : Nat) : redc M (mm M a * mm M b) = mm M (a * b) := by
  refine (redc_uniq hM (mm_lt hM _) ?_).symm
  have h1 : Mq M (mm M (a * b) * W) (a * b * W * W) := (Mq.mod _).mul (Mq.refl W)
  have h2 : Mq M (mm M a * mm M b) (a * W * (b * W)) := (Mq.mod _).mul (Mq.mod _)
  refine h1.trans (Mq.trans (Mq.of_eq ?_) h2.symm)
  rw [Nat.mul_mul_mul_comm, Nat.mul_assoc (a * b)]
theorem mm_out {M : Nat} (hM : M % 2 = 1) (a : Nat) : redc M (mm M a * 1) = a % M := by
  refine (redc_uniq hM (Nat.mod_lt _ (odd_pos hM)) ?_).symm
  rw [Nat.mul_one]
  exact ((Mq.mod a).mul (Mq.refl W)).trans (Mq.mod _).symm

/-! ### Inverses -/
theorem inv_ex (a m : Nat) : ∃ y : Nat, (∀ z, z < m → Mq m (a * z) 1 → y = z) ∧ ((¬ ∃ z, z < m ∧ Mq m (a * z) 1) → y = 0) := by
  by_cases h : ∃ z, z < m ∧ Mq m (a * z) 1
  · obtain ⟨y, hy, hay⟩ := h
    refine ⟨y, fun z hz haz => ?_, fun hn => absurd ⟨y, hy, hay⟩ hn⟩
    have h1 : Mq m (a * z * y) y := by simpa using haz.mul (Mq.refl y)
    have h2 : Mq m (a * y * z) z := by simpa using hay.mul (Mq.refl z)
    exact Mq.eq (h1.symm.trans ((Mq.of_eq (by rw [Nat.mul_right_comm])).trans h2)) hy hz
  · exact ⟨0, fun z hz haz => absurd ⟨z, hz, haz⟩ h, fun _ => rfl⟩
noncomputable def invN (a m : Nat) : Nat := Classical.choose (inv_ex a m)
theorem invN_eq {a m z : Nat} (hz : z < m) (h : Mq m (a * z) 1) : invN a m = z := (Classical.choose_spec (inv_ex a m)).1 z hz h
theorem invN_none {a m : Nat} (h : ¬ ∃ z, z < m ∧ Mq m (a * z) 1) : invN a m = 0 := (Classical.choose_spec (inv_ex a m)).2 h
theorem cop_of_inv {a m z : Nat} (hm : 2 ≤ m) (h : Mq m (a * z) 1) : Nat.gcd a m = 1 := by
  have h1 : Nat.gcd a m ∣ a * z := Nat.dvd_trans (Nat.gcd_dvd_left a m) (Nat.dvd_mul_right a z)
  have h2 := Nat.gcd_dvd_right a m
  have h3 : Nat.gcd a m ∣ a * z % m := (Nat.dvd_mod_iff h2).2 h1
  rw [h, Nat.mod_eq_of_lt (by omega : 1 < m)] at h3
  exact Nat.dvd_one.1 h3
theorem invN_gcd {a m : Nat} (hm : 2 ≤ m) (h : Nat.gcd a m ≠ 1) : invN a m = 0 :=
  invN_none fun ⟨z, _, hz⟩ => h (cop_of_inv hm hz)
end Go.Proofs.Ytgefihgogfkjoaa

/-! A modulus made ready, two numbers together, ten words: how they lie. -/
namespace Go.Proofs.Ytgefihgogfkjoaa
open Go.Am

noncomputable def montL (M R T N : Nat) : List AV := numL M ++ (numL R ++ (numL T ++ [.int .u32 (N : Nat)]))
noncomputable def mont (M R T N : Nat) : AV := .agg (montL M R T N)
noncomputable def pairL (A B : Nat) : List AV := numL A ++ numL B
noncomputable def pairA (A B : Nat) : AV := .agg (pairL A B)
def montF : List (Nat × Nat × Bool) := [(0, 8, true), (8, 8, true), (16, 8, true), (24, 1, false)]
def pairF : List (Nat × Nat × Bool) := [(0, 8, true), (8, 8, true)]
theorem tyMont : tyI Try.prog 105 = some ⟨25, 100, true, montL 0 0 0 0, .struct montF⟩ := by unfold montL; rw [numL_zero]; kernel_rfl
theorem tyPair : tyI Try.prog 129 = some ⟨16, 64, true, pairL 0 0, .struct pairF⟩ := by unfold pairL; rw [numL_zero]; kernel_rfl
def u64F (f : Nat → Nat) (i : Nat) : AV := .int .u64 (f i : Nat)
theorem tyTen : tyI Try.prog 136 = some ⟨10, 80, true, famL (u64F fun _ => 0) 10, .array 10 120 1 false⟩ := by kernel_rfl

@[simp] theorem montL_length (M R T N : Nat) : (montL M R T N).length = 25 := by simp [montL]
@[simp] theorem pairL_length (A B : Nat) : (pairL A B).length = 16 := by simp [pairL]
@[simp] theorem noRefs_montL (M R T N : Nat) : noRefs (montL M R T N) = true := by simp [montL, noRefs_append, noRefs, noRef]
@[simp] theorem flats_montL (M R T N : Nat) : flats (montL M R T N) = true := by simp [montL, flats_append, flats, flat]
@[simp] theorem refsLts_montL (m M R T N : Nat) : refsLts m (montL M R T N) = true := by simp [montL, refsLts_append, refsLts, refsLt]
@[simp] theorem rens_montL (ρ : Nat → Nat) (M R T N : Nat) : rens ρ (montL M R T N) = montL M R T N := by simp [montL, rens_append, rens, ren]
@[simp] theorem noRefs_pairL (A B : Nat) : noRefs (pairL A B) = true := by simp [pairL, noRefs_append]
@[simp] theorem refsLts_pairL (m A B : Nat) : refsLts m (pairL A B) = true := by simp [pairL, refsLts_append]
@[simp] theorem flats_pairL (A B : Nat) : flats (pairL A B) = true := by simp [pairL, flats_append]
@[simp] theorem rens_pairL (ρ : Nat → Nat) (A B : Nat) : rens ρ (pairL A B) = pairL A B := by simp [pairL, rens_append]
@[simp] theorem leaf_montL (M R T N : Nat) : (montL M R T N).all leafOk = true := by simp [montL, leafOk]
@[simp] theorem leaf_pairL (A B : Nat) : (pairL A B).all leafOk = true := by simp [pairL]
@[simp] theorem cellsA_mont (M R T N : Nat) : cellsA (mont M R T N) = some (montL M R T N) := (rfl)
@[simp] theorem cellsA_pair (A B : Nat) : cellsA (pairA A B) = some (pairL A B) := (rfl)
@[simp] theorem noRef_mont (M R T N : Nat) : noRef (mont M R T N) = true := by simp [mont, noRef]
@[simp] theorem refsLt_mont (m M R T N : Nat) : refsLt m (mont M R T N) = true := by simp [mont, refsLt]
@[simp] theorem view_mont (h : HP) (M R T N : Nat) : view h (mont M R T N) = mont M R T N := by simp [mont, view]
@[simp] theorem view_pair (h : HP) (A B : Nat) : view h (pairA A B) = pairA A B := by simp [pairA, view]
@[simp] theorem noRef_pair (A B : Nat) : noRef (pairA A B) = true := by simp [pairA, noRef]
@[simp] theorem refsLt_pair (m A B : Nat) : refsLt m (pairA A B) = true := by simp [pairA, refsLt]

theorem montL_M {M R T N i : Nat} (h : i < 8) : (montL M R T N)[i]? = some (limbA M i) := by
  rw [montL, List.getElem?_append_left (by simpa using h), numL_get h]
@[simp] theorem montL_N (M R T N : Nat) : (montL M R T N)[24]? = some (.int .u32 (N : Nat)) := (rfl)
@[simp] theorem segM_M (M R T N : Nat) : segA (montL M R T N) 0 8 = some (num M) := (rfl)
@[simp] theorem segM_R (M R T N : Nat) : segA (montL M R T N) 8 8 = some (num R) := (rfl)
@[simp] theorem segM_T (M R T N : Nat) : segA (montL M R T N) 16 8 = some (num T) := (rfl)
@[simp] theorem segM_all (M R T N : Nat) : segA (montL M R T N) 0 25 = some (mont M R T N) := (rfl)
@[simp] theorem segP_A (A B : Nat) : segA (pairL A B) 0 8 = some (num A) := (rfl)
@[simp] theorem segP_B (A B : Nat) : segA (pairL A B) 8 8 = some (num B) := (rfl)
@[simp] theorem segP_all (A B : Nat) : segA (pairL A B) 0 16 = some (pairA A B) := (rfl)
@[simp] theorem putM_R (M R T N Z : Nat) : putSeg (montL M R T N) 8 (numL Z) = some (montL M Z T N) := (rfl)
@[simp] theorem putM_T (M R T N Z : Nat) : putSeg (montL M R T N) 16 (numL Z) = some (montL M R Z N) := (rfl)
@[simp] theorem putP_A (A B Z : Nat) : putSeg (pairL A B) 0 (numL Z) = some (pairL Z B) := (rfl)
@[simp] theorem putP_B (A B Z : Nat) : putSeg (pairL A B) 8 (numL Z) = some (pairL A Z) := (rfl)
theorem setM_N (M R T N Z : Nat) {v : Int} (hv : v = (Z : Nat)) : (montL M R T N).set 24 (.int .u32 v) = montL M R T Z := by subst hv; rfl
@[simp] theorem build_mont0 : buildA ⟨25, 100, true, montL 0 0 0 0, .struct montF⟩ [] = some (mont 0 0 0 0) := (rfl)
@[simp] theorem build_mont1 (M : Nat) : buildA ⟨25, 100, true, montL 0 0 0 0, .struct montF⟩ [(0, num M)] = some (mont M 0 0 0) := (rfl)
theorem build_mont4 (M R T N : Nat) {v : Int} (hv : v = (N : Nat)) : buildA ⟨25, 100, true, montL 0 0 0 0, .struct montF⟩ [(0, num M), (1, num R), (2, num T), (3, .int .u32 v)] = some (mont M R T N) := by subst hv; rfl
@[simp] theorem build_pair0 : buildA ⟨16, 64, true, pairL 0 0, .struct pairF⟩ [] = some (pairA 0 0) := (rfl)
@[simp] theorem build_pair2 (A B : Nat) : buildA ⟨16, 64, true, pairL 0 0, .struct pairF⟩ [(0, num A), (1, num B)] = some (pairA A B) := (rfl)
@[simp] theorem store_mont {M R T N b id off nt : Nat} {a : Bool} {z : List AV} {td : TD} {bk : Nat → Option Blk} : storeA ⟨25, b, a, z, td⟩ ⟨bk, nt⟩ (.ptr id off) (mont M R T N) = blkT (bk id) fun k => (putSeg k.cs off (montL M R T N)).map fun cs => ⟨upd bk id (some ⟨cs, k.fix⟩), nt⟩ :=
  store_agg (by simp) (by simp)
@[simp] theorem store_pair {A B b id off nt : Nat} {a : Bool} {z : List AV} {td : TD} {bk : Nat → Option Blk} : storeA ⟨16, b, a, z, td⟩ ⟨bk, nt⟩ (.ptr id off) (pairA A B) = blkT (bk id) fun k => (putSeg k.cs off (pairL A B)).map fun cs => ⟨upd bk id (some ⟨cs, k.fix⟩), nt⟩ :=
  store_agg (by simp) (by simp)
@[simp] theorem putM_all (M R T N M' R' T' N' : Nat) : putSeg (montL M R T N) 0 (montL M' R' T' N') = some (montL M' R' T' N') := putSeg_all (by simp)
@[simp] theorem putP_all (A B A' B' : Nat) : putSeg (pairL A B) 0 (pairL A' B') = some (pairL A' B') := putSeg_all (by simp)
theorem nthM0 : nth montF 0 = some (0, 8, true) := rfl
theorem nthM1 : nth montF 1 = some (8, 8, true) := rfl
theorem nthM2 : nth montF 2 = some (16, 8, true) := rfl
theorem nthM3 : nth montF 3 = some (24, 1, false) := rfl
theorem nthP0 : nth pairF 0 = some (0, 8, true) := rfl
theorem nthP1 : nth pairF 1 = some (8, 8, true) := rfl
attribute [simp] nthM0 nthM1 nthM2 nthM3 nthP0 nthP1
end Go.Proofs.Ytgefihgogfkjoaa

/-! Contracts of the document's mont: products by a modulus, halves, powers. -/
namespace Go.Proofs.Ytgefihgogfkjoaa
open Go.Am

/-- the contracts of the document's numbers, by what they say -/
theorem raddR {X Y : Nat} (hX : X < W) (hY : Y < W) : ∃ S c, S < W ∧ c < 2 ∧ c * W + S = X + Y ∧ ASpec Try.prog 83 [num X, num Y] (.tup [num S, .int .u32 (c : Nat)]) := by
  refine ⟨_, _, Nat.mod_lt _ W_pos, ?_, ?_, radd X Y hX hY⟩
  · exact Nat.div_lt_of_lt_mul (by omega)
  · rw [Nat.mul_comm]; exact Nat.div_add_mod _ _
theorem rmulR {X Y : Nat} (hX : X < W) (hY : Y < W) : ∃ L H, L < W ∧ H < W ∧ H * W + L = X * Y ∧ ASpec Try.prog 68 [num X, num Y] (.tup [num L, num H]) := by
  refine ⟨_, _, Nat.mod_lt _ W_pos, ?_, ?_, rmul X Y hX hY⟩
  · exact Nat.div_lt_of_lt_mul (Nat.mul_lt_mul_of_lt_of_le hX (Nat.le_of_lt hY) W_pos)
  · rw [Nat.mul_comm]; exact Nat.div_add_mod _ _
theorem rrestN {lo hi m : Nat} (hl : lo < W) (hh : hi < W) (hm : m < W) (h0 : m ≠ 0) : ASpec Try.prog 69 [num lo, num hi, num m] (.tup [num ((hi * W + lo) % m), .bool true]) := by
  have := rrest lo hi m hl hh hm
  rwa [restN, if_neg h0, decide_eq_true h0] at this
theorem restN_ {lo hi m : Nat} (hl : lo < W) (hh : hi < W) (hm : m < W) (h0 : m ≠ 0) : ASpec Try.prog 60 [num lo, num hi, num m] (.tup [num ((hi * W + lo) % m), .bool true]) := by
  have := rest lo hi m hl hh hm
  rwa [restN, if_neg h0, decide_eq_true h0] at this
theorem rfromN (n : Nat) (h : n < 9223372036854775808) : ASpec Try.prog 26 [.int .i64 (n : Nat)] (num n) := by
  have := rfrom (n : Int) (by omega) (by omega)
  rwa [Int.toNat_natCast] at this
@[simp] theorem build_num {e : TypeId} : buildA ⟨8, 32, true, numL 0, .array 8 e 1 false⟩ [] = some (num 0) := (rfl)

theorem in_ {M R T N a : Nat} (ha : a < W) (hm : M < W) (h0 : M ≠ 0) : ASpec Try.prog 95 [mont M R T N, num a] (num (mm M a)) := by
  refine ASpec.start 1000 Try.func95 (fn := Try.f95) rfl (by decide) mixed (by kernel_rfl) (by simp) ?_
  have h0W : 0 < W := W_pos
  simp (disch := omega) [ini, upd_eq, tyNum, tyMont]
  have s := restN_ (lo := 0) h0W ha hm h0
  rw [Nat.add_zero] at s
  refine callT_of s rfl rfl ?_
  simp (disch := omega) [upd_eq, tyNum, resA_L Try.results95, mm]

theorem limb_half (V i : Nat) : limb (V / 2) i = limb V i / 2 + limb V (i + 1) % 2 * 2147483648 := by
  simp only [limb_def]
  rw [show 32 * (i + 1) = 32 * i + 32 by omega, Nat.pow_add, ← Nat.div_div_eq_div_mul, Nat.div_div_eq_div_mul V 2, Nat.mul_comm 2, ← Nat.div_div_eq_div_mul]
  generalize V / 2 ^ (32 * i) = x
  rw [show (2 : Nat) ^ 32 = 4294967296 from rfl]
  omega
end Go.Proofs.Ytgefihgogfkjoaa

/-! Contracts of the document's mont: out, products, powers; the statements' words. -/
namespace Go.Proofs.Ytgefihgogfkjoaa
open Go.Am

def seqH (M x : Nat) : Nat → Nat
  | 0 => x
  | n + 1 => halfN M (seqH M x n)
theorem hiter_seq (M : Nat) : ∀ n x, hiter M n x = seqH M x n := by
  have key : ∀ n x, seqH M (halfN M x) n = halfN M (seqH M x n) := by
    intro n
    induction n with
    | zero => intro x; rfl
    | succ n ih => intro x; rw [seqH, ih, seqH]
  intro n
  induction n with
  | zero => intro x; rfl
  | succ n ih => intro x; rw [hiter, ih, key, seqH]
theorem seqH_lt {M x : Nat} (hx : x < M) : ∀ n, seqH M x n < M
  | 0 => hx
  | n + 1 => half_lt (seqH_lt hx n)
theorem pow_bit (a e i : Nat) : a ^ (e / 2 ^ i) = (a ^ (e / 2 ^ (i + 1))) * (a ^ (e / 2 ^ (i + 1))) * (if bitN e i = 1 then a else 1) := by
  have h : e / 2 ^ i = e / 2 ^ (i + 1) + e / 2 ^ (i + 1) + bitN e i := by
    unfold bitN
    rw [Nat.pow_succ, ← Nat.div_div_eq_div_mul]
    omega
  rw [h, Nat.pow_add, Nat.pow_add]
  have hb := bitN_le e i
  rcases (by omega : bitN e i = 0 ∨ bitN e i = 1) with h1 | h1 <;> simp [h1]
theorem blen_top (e : Nat) : e / 2 ^ blen e = 0 := by
  by_cases h : e = 0
  · subst h; simp
  · have hl := (Nat.log2_eq_iff h).1 rfl
    apply Nat.div_eq_of_lt
    unfold blen
    rw [if_neg h]
    exact hl.2
end Go.Proofs.Ytgefihgogfkjoaa

/-! The statements' word: an odd modulus. Newton's way to the modulus' inverse by 2^32. Products, undone once: the numbers. -/
namespace Go.Proofs.Ytgefihgogfkjoaa
open Go.Am

theorem numL_eight (N : Nat) : numL N = [limbA N 0, limbA N 1, limbA N 2, limbA N 3, limbA N 4, limbA N 5, limbA N 6, limbA N 7] := rfl
theorem limb_zero {N i : Nat} (h : N < 4294967296) (hi : 0 < i) : limb N i = 0 := by
  rw [limb_def]
  have h1 : 2 ^ 32 ≤ 2 ^ (32 * i) := Nat.pow_le_pow_right (by decide) (by omega)
  rw [Nat.div_eq_of_lt (Nat.lt_of_lt_of_le h h1)]
theorem limb_0 (N : Nat) : limb N 0 = N % 4294967296 := by rw [limb_def]; simp
theorem numL_small {N : Nat} (h : N < 4294967296) : numL N = [.int .u32 (N : Nat), .int .u32 0, .int .u32 0, .int .u32 0, .int .u32 0, .int .u32 0, .int .u32 0, .int .u32 0] := by
  rw [numL_eight]
  simp [limbA, limb_zero h, limb_0, Nat.mod_eq_of_lt h]
theorem odd_set (X : Nat) {v : Int} (hv : v = ((limb X 0 ||| 1 : Nat) : Int)) : (numL X).set 0 (.int .u32 v) = numL (2 * (X / 2) + 1) := by
  have hX : X = 2 * (X / 2) + X % 2 := by omega
  have hb : X % 2 < 2 := by omega
  have h1 : numL X = (numL (2 * (X / 2))).set 0 (.int .u32 (limb X 0 : Nat)) := by
    refine ((numL_low (A := X / 2) hb ?_).trans ?_).symm
    · rw [← hX]
    · rw [← hX]
  rw [h1, List.set_set]
  refine numL_low (by decide) ?_
  subst hv
  congr 1
  rw [← or_low (b := 1) (by decide)]
  have h2 := or_low (A := X / 2) hb
  rw [← hX] at h2
  rw [← h2, Nat.or_assoc]
  rcases (by omega : X % 2 = 0 ∨ X % 2 = 1) with h | h <;> rw [h] <;> rfl
/-! ### -1 / m by 2^32 -/
def newt (m : Int) : Nat → Int
  | 0 => 1
  | k + 1 => newt m k * ((2 - m * newt m k % 4294967296) % 4294967296) % 4294967296
theorem newt_range (m : Int) : ∀ k, 0 ≤ newt m k ∧ newt m k < 4294967296
  | 0 => by simp [newt]
  | k + 1 => by rw [newt]; omega
theorem newt_step {k : Nat} {m z j : Int} (h : j ∣ 1 - m * newt m k) (hz : z ∣ j * j) (hz2 : z ∣ 4294967296) : z ∣ 1 - m * newt m (k + 1) := by
  rw [newt]
  generalize newt m k = x at *
  obtain ⟨c, hc⟩ := h
  have e1 : ∃ u, (2 - m * x % 4294967296) % 4294967296 = 2 - m * x + 4294967296 * u := by
    have a1 := Int.mul_ediv_add_emod (m * x) 4294967296
    have a2 := Int.mul_ediv_add_emod (2 - m * x % 4294967296) 4294967296
    exact ⟨m * x / 4294967296 - (2 - m * x % 4294967296) / 4294967296, by omega⟩
  obtain ⟨u, hu⟩ := e1
  rw [hu]
  have e2 : ∃ v, x * (2 - m * x + 4294967296 * u) % 4294967296 = x * (2 - m * x + 4294967296 * u) + 4294967296 * v := by
    have a1 := Int.mul_ediv_add_emod (x * (2 - m * x + 4294967296 * u)) 4294967296
    exact ⟨-(x * (2 - m * x + 4294967296 * u) / 4294967296), by omega⟩
  obtain ⟨v, hv⟩ := e2
  rw [hv]
  have e3 : 1 - m * (x * (2 - m * x + 4294967296 * u) + 4294967296 * v) = (1 - m * x) * (1 - m * x) - 4294967296 * (m * x * u + m * v) := by
    rw [Int.mul_add m, ← Int.mul_assoc m x]
    generalize m * x = p
    simp only [Int.mul_add, Int.mul_sub, Int.sub_mul, Int.mul_one, Int.one_mul, Int.mul_left_comm p 4294967296, Int.mul_left_comm m 4294967296]
    omega
  rw [e3, hc]
  refine Int.dvd_sub ?_ (Int.dvd_trans hz2 (Int.dvd_mul_right _ _))
  refine Int.dvd_trans hz ⟨c * c, ?_⟩
  simp only [Int.mul_assoc, Int.mul_left_comm]
theorem newt_inv {m : Int} (hm : m % 2 = 1) : (4294967296 : Int) ∣ 1 - m * newt m 5 := by
  have h0 : (2 : Int) ∣ 1 - m * newt m 0 := by rw [newt]; omega
  have h1 : (4 : Int) ∣ 1 - m * newt m 1 := newt_step h0 (by decide) (by decide)
  have h2 : (16 : Int) ∣ 1 - m * newt m 2 := newt_step h1 (by decide) (by decide)
  have h3 : (256 : Int) ∣ 1 - m * newt m 3 := newt_step h2 (by decide) (by decide)
  have h4 : (65536 : Int) ∣ 1 - m * newt m 4 := newt_step h3 (by decide) (by decide)
  exact newt_step h4 (by decide) (by decide)
/-- what Neg is -/
noncomputable def negN (m : Nat) : Nat := ((- newt (limb m 0) 5) % 4294967296).toNat
end Go.Proofs.Ytgefihgogfkjoaa

/-! A modulus made ready: mont and the document. -/
namespace Go.Proofs.Ytgefihgogfkjoaa
open Go.Am

/-- what a modulus is made to -/
noncomputable def mkM (m : Nat) : AV := mont m (W % m) (W * W % m) (negN m)
theorem negN_lt (m : Nat) : negN m < 4294967296 := by unfold negN; omega
theorem negN_eq (m : Nat) : (- newt (limb m 0) 5) % 4294967296 = ((negN m : Nat) : Int) := by unfold negN; omega
theorem low_and (a : Nat) : bitsA .and .u32 (limb a 0) 1 = ((a % 2 : Nat) : Int) := by
  have := band32 (limb_lt a 0) (show 1 < 4294967296 by decide)
  rw [Nat.and_one_is_mod] at this
  have e : limb a 0 % 2 = a % 2 := by rw [limb_def]; simp
  rw [e] at this
  exact this
theorem neg_mod {m : Nat} (ho : m % 2 = 1) : (m * negN m + 1) % 4294967296 = 0 := by
  have h1 : ((limb m 0 : Nat) : Int) % 2 = 1 := by rw [limb_0]; omega
  have h2 := newt_inv h1
  have h3 := negN_eq m
  obtain ⟨c, hc⟩ := h2
  have h4 := newt_range (limb m 0 : Nat) 5
  generalize newt (limb m 0 : Nat) 5 = z at *
  have h5 : ∃ k : Int, (negN m : Int) = -z + 4294967296 * k := ⟨- ((-z) / 4294967296), by have := Int.mul_ediv_add_emod (-z) 4294967296; omega⟩
  obtain ⟨k, hk⟩ := h5
  have h6 : (limb m 0 : Int) = (m : Int) - 4294967296 * ((m / 4294967296 : Nat) : Int) := by rw [limb_0]; omega
  have h7 : (m : Int) * (negN m : Int) + 1 = 4294967296 * (c + (m : Int) * k - ((m / 4294967296 : Nat) : Int) * z) := by
    rw [hk]
    rw [h6] at hc
    generalize ((m / 4294967296 : Nat) : Int) = q at *
    generalize (m : Int) = x at *
    simp only [Int.mul_add, Int.mul_sub, Int.sub_mul, Int.mul_neg, Int.mul_assoc, Int.mul_left_comm x 4294967296] at *
    omega
  have h8 : ((m * negN m + 1 : Nat) : Int) = 4294967296 * (c + (m : Int) * k - ((m / 4294967296 : Nat) : Int) * z) := by rw [← h7]; simp
  omega

theorem make_mont {m : Nat} (hm : m < W) (ho : m % 2 = 1) (h1 : m ≠ 1) : ASpec Try.prog 74 [num m] (.tup [mkM m, .bool true]) := by
  refine ASpec.start 1000 Try.func74 (fn := Try.f74) rfl (by decide) mixed (by kernel_rfl) (by simp) ?_
  have h0W : 0 < W := W_pos
  have h0W' := W_big
  have hla := low_and m
  simp (disch := omega) [ini, upd_eq, tyNum, tyMont, tyU32, numL_get, limbA_def, hla, ho]
  refine callT_of (fromN 1 (by omega)) rfl rfl ?_
  simp (disch := omega) [upd_eq, tyNum, tyMont, eql_num, h1]
  have hl := limb_lt m 0
  refine goT_count (fun i => [(1, .ptr 0 0), (2, .ptr 1 0), (4, .int .u32 (newt (limb m 0) i)), (21, .int .i64 (i : Nat))]) (fun i => [(0, ⟨numL m, true⟩), (1, ⟨montL 0 0 0 0, true⟩)]) 2 5 ?_ ?_ ?_
  · intro i hi IH
    refine goT_round mixed 100 ?_
    simp (disch := omega) [st_eq, upd_eq, tyNum, tyU32, numL_get, limbA_def, show (i : Int) < 5 by omega, w_u32, in_i64]
    exact IH _ ⟨by simp [upd_eq, refsLt, newt], by simp [upd_eq]⟩
  · refine goT_round mixed 100 ?_
    simp (disch := omega) [st_eq, upd_eq, tyNum, tyMont]
    refine callT_of (fromN 1 (by omega)) rfl rfl ?_
    simp (disch := omega) [upd_eq, tyNum]
    have s1 := restN_ (lo := 0) (hi := 1) h0W (by omega) hm (by omega)
    rw [Nat.one_mul, Nat.add_zero] at s1
    refine callT_of s1 rfl rfl ?_
    have hR : W % m < W := Nat.lt_trans (Nat.mod_lt _ (by omega)) hm
    simp (disch := omega) [upd_eq, tyNum]
    obtain ⟨L, H, hL, hH, hLH, s2⟩ : ∃ L H, L < W ∧ H < W ∧ H * W + L = (W % m) * (W % m) ∧ ASpec Try.prog 59 [num (W % m), num (W % m)] (.tup [num L, num H]) := by
      refine ⟨_, _, Nat.mod_lt _ W_pos, ?_, ?_, mul (W % m) (W % m) hR hR⟩
      · exact Nat.div_lt_of_lt_mul (Nat.mul_lt_mul_of_lt_of_le hR (Nat.le_of_lt hR) W_pos)
      · rw [Nat.mul_comm]; exact Nat.div_add_mod _ _
    refine callT_of s2 rfl rfl ?_
    simp (disch := omega) [upd_eq, tyNum]
    have s3 := restN_ hL hH hm (show m ≠ 0 by omega)
    rw [hLH, ← Nat.mul_mod] at s3
    refine callT_of s3 rfl rfl ?_
    have hn := negN_eq m
    simp (disch := omega) [upd_eq, tyNum, tyMont, w_u32, build_mont4 _ _ _ (negN m) hn, mkM, resA_L Try.results74]
  · exact ⟨by simp [upd_eq, refsLt, newt], by simp [upd_eq]⟩
theorem make_none {m : Nat} (hm : m < W) (h : m % 2 = 0 ∨ m = 1) : ASpec Try.prog 74 [num m] (.tup [mont 0 0 0 0, .bool false]) := by
  refine ASpec.start 1000 Try.func74 (fn := Try.f74) rfl (by decide) mixed (by kernel_rfl) (by simp) ?_
  have h0W' := W_big
  have hla := low_and m
  rcases h with h | h
  · simp (disch := omega) [ini, upd_eq, tyNum, tyMont, tyU32, numL_get, limbA_def, hla, h, resA_L Try.results74]
  · subst h
    simp (disch := omega) [ini, upd_eq, tyNum, tyMont, tyU32, numL_get, limbA_def, hla]
    refine callT_of (fromN 1 (by omega)) rfl rfl ?_
    simp (disch := omega) [upd_eq, tyNum, tyMont, eql_num, resA_L Try.results74]

end Go.Proofs.Ytgefihgogfkjoaa

/-! Products, undone once: the numbers that the ten words are. -/
namespace Go.Proofs.Ytgefihgogfkjoaa
open Go.Am

section
variable (A B M N : Nat)
noncomputable def cT : Nat → Nat
  | 0 => 0
  | i + 1 => ((limb A i * B + cT i) % 4294967296 * N % 4294967296 * M + (limb A i * B + cT i)) / 4294967296
noncomputable def cTp (i : Nat) : Nat := limb A i * B + cT A B M N i
noncomputable def cq (i : Nat) : Nat := cTp A B M N i % 4294967296 * N % 4294967296
noncomputable def cU (i : Nat) : Nat := cq A B M N i * M + cTp A B M N i
end
section
variable {A B M N : Nat}
theorem cT_succ (i : Nat) : cT A B M N (i + 1) = cU A B M N i / 4294967296 := by rw [cT]; rfl
theorem cq_lt (i : Nat) : cq A B M N i < 4294967296 := Nat.mod_lt _ (by decide)
theorem cU_mod (hN : (M * N + 1) % 4294967296 = 0) (i : Nat) : cU A B M N i % 4294967296 = 0 := by
  have h1 : Mq 4294967296 (cU A B M N i) (cTp A B M N i * (M * N + 1)) := by
    unfold cU cq
    generalize cTp A B M N i = t
    have h : Mq 4294967296 (t % 4294967296 * N % 4294967296 * M) (t * N * M) := ((Mq.mod _).trans ((Mq.mod t).mul (Mq.refl N))).mul (Mq.refl M)
    refine (h.add (Mq.refl t)).trans (Mq.of_eq ?_)
    rw [Nat.mul_add, Nat.mul_one, Nat.mul_assoc, Nat.mul_comm N M]
  have h2 : Mq 4294967296 (cTp A B M N i * (M * N + 1)) (cTp A B M N i * 0) := Mq.mul (Mq.refl _) hN
  have := h1.trans h2
  rw [Nat.mul_zero] at this
  exact this
theorem cT_mul (hN : (M * N + 1) % 4294967296 = 0) (i : Nat) : cT A B M N (i + 1) * 4294967296 = cU A B M N i := by
  have := cU_mod (A := A) (B := B) hN i
  rw [cT_succ]
  omega
theorem cT_eq (hN : (M * N + 1) % 4294967296 = 0) : ∀ i, ∃ Q, Q < 2 ^ (32 * i) ∧ cT A B M N i * 2 ^ (32 * i) = (A % 2 ^ (32 * i)) * B + Q * M
  | 0 => ⟨0, by decide, by simp [cT, Nat.mod_one]⟩
  | i + 1 => by
    obtain ⟨Q, hQ, he⟩ := cT_eq hN i
    have hq := cq_lt (A := A) (B := B) (M := M) (N := N) i
    have hm := cT_mul (A := A) (B := B) hN i
    refine ⟨Q + 2 ^ (32 * i) * cq A B M N i, ?_, ?_⟩
    · rw [show 32 * (i + 1) = 32 * i + 32 by omega, Nat.pow_add, show (2 : Nat) ^ 32 = 4294967296 from rfl]
      have : 2 ^ (32 * i) * (cq A B M N i + 1) ≤ 2 ^ (32 * i) * 4294967296 := Nat.mul_le_mul_left _ (by omega)
      rw [Nat.mul_add] at this
      omega
    · rw [mod_step, show 32 * (i + 1) = 32 + 32 * i by omega, Nat.pow_add, ← Nat.mul_assoc, show (2 : Nat) ^ 32 = 4294967296 from rfl, hm, cU, cTp]
      rw [Nat.add_mul, Nat.add_mul, he, Nat.add_mul, Nat.add_mul]
      simp only [Nat.mul_comm, Nat.mul_left_comm, Nat.mul_assoc]
      omega
theorem cT_lt (hN : (M * N + 1) % 4294967296 = 0) (hB : B < W) (hM0 : 0 < M) (i : Nat) : cT A B M N i < B + M := by
  obtain ⟨Q, hQ, he⟩ := cT_eq (A := A) (B := B) hN i
  have hp := Nat.two_pow_pos (32 * i)
  have h1 : (A % 2 ^ (32 * i)) * B ≤ 2 ^ (32 * i) * B := Nat.mul_le_mul_right _ (Nat.le_of_lt (Nat.mod_lt _ hp))
  have h2 : Q * M < 2 ^ (32 * i) * M := Nat.mul_lt_mul_of_pos_right hQ hM0
  have h3 : cT A B M N i * 2 ^ (32 * i) < (B + M) * 2 ^ (32 * i) := by
    rw [he, Nat.mul_comm (B + M), Nat.mul_add]; omega
  exact Nat.lt_of_mul_lt_mul_right h3
theorem cT_end (hN : (M * N + 1) % 4294967296 = 0) (hA : A < W) (hM0 : 0 < M) (hAB : A * B < M * W) :
    cT A B M N 8 < 2 * M ∧ Mq M (cT A B M N 8 * W) (A * B) := by
  obtain ⟨Q, hQ, he⟩ := cT_eq (A := A) (B := B) hN 8
  rw [show 2 ^ (32 * 8) = W from rfl, Nat.mod_eq_of_lt hA] at he
  have hQ : Q < W := hQ
  have h2 : Q * M < W * M := Nat.mul_lt_mul_of_pos_right hQ hM0
  constructor
  · have h3 : cT A B M N 8 * W < 2 * M * W := by
      rw [he, Nat.mul_assoc, Nat.two_mul]
      rw [Nat.mul_comm W M] at h2
      omega
    exact Nat.lt_of_mul_lt_mul_right h3
  · rw [he, Nat.mul_comm Q]; exact Mq.add_mul

/-- what goes beyond the eighth word -/
theorem mcar_top {a Y : Nat} (hB : B < W) : (a * B + Y) / W = mcar a B Y 8 + Y / W := by
  unfold mcar
  rw [show 2 ^ (32 * 8) = W from rfl, Nat.mod_eq_of_lt hB]
  have h := Nat.mod_add_div Y W
  have h1 : a * B + Y = (a * B + Y % W) + W * (Y / W) := by omega
  rw [h1, Nat.add_mul_div_left _ _ W_pos]
theorem limb_8 (X : Nat) : limb X 8 = X / W % 4294967296 := limb_def X 8
theorem limb_9 (X : Nat) : limb X 9 = X / W / 4294967296 % 4294967296 := by
  have h := limb_up X 8 1
  rw [show 8 + 1 = 9 from rfl] at h
  rw [h, limb_def]
  rfl
theorem limb_next (X j : Nat) : limb (X / 4294967296) j = limb X (j + 1) := by
  rw [Nat.add_comm j 1, limb_up]
end

/-- the words ahead of round i -/
noncomputable def w0 (A B M N i j : Nat) : Nat := if j < 9 then limb (cT A B M N i) j else if i = 0 then 0 else limb (cTp A B M N (i - 1)) 9
noncomputable def w1 (A B M N i k j : Nat) : Nat := if j < k then limb (cTp A B M N i) j else w0 A B M N i j
noncomputable def w2 (A B M N i k j : Nat) : Nat := if j + 1 < k then limb (cU A B M N i) (j + 1) else limb (cTp A B M N i) j
noncomputable def ten (f : Nat → Nat) : List AV := famL (u64F f) 10
@[simp] theorem ten_length (f : Nat → Nat) : (ten f).length = 10 := by simp [ten]
theorem ten_get {f : Nat → Nat} {j : Nat} (h : j < 10) : (ten f)[j]? = some (.int .u64 (f j : Nat)) := famL_get _ _ _ h
theorem ten_set {f g : Nat → Nat} {j : Nat} {v : Int} (hv : v = (g j : Nat)) (h : ∀ i, i < 10 → i ≠ j → f i = g i) : (ten f).set j (.int .u64 v) = ten g := by
  subst hv
  rw [ten, famL_set]
  refine famL_congr fun i hi => ?_
  unfold upd
  by_cases h1 : i = j
  · subst h1; simp [u64F]
  · simp [h1, u64F, h i hi h1]
@[simp] theorem refsLts_ten (m : Nat) (f : Nat → Nat) : refsLts m (ten f) = true := refsLts_famL fun _ _ => rfl
theorem ten_congr {f g : Nat → Nat} (h : ∀ i, i < 10 → f i = g i) : ten f = ten g := famL_congr fun i hi => by rw [u64F, u64F, h i hi]
theorem low64 {s : Nat} (h : s < 18446744073709551616) : bitsA .and .u64 (s : Int) 4294967295 = ((s % 4294967296 : Nat) : Int) := by
  have := band64 h (show 4294967295 < 18446744073709551616 by decide)
  rw [show (4294967295 : Nat) = 2 ^ 32 - 1 from rfl, Nat.and_two_pow_sub_one_eq_mod] at this
  exact this
end Go.Proofs.Ytgefihgogfkjoaa

/-! Products, undone once: the walk. -/
namespace Go.Proofs.Ytgefihgogfkjoaa
open Go.Am

theorem ten_set2 {f g : Nat → Nat} {a b : Nat} {v w : Int} (hab : a ≠ b) (hv : v = (g a : Nat)) (hw : w = (g b : Nat)) (h : ∀ i, i < 10 → i ≠ a → i ≠ b → f i = g i) : ((ten f).set a (.int .u64 v)).set b (.int .u64 w) = ten g := by
  rw [ten_set (g := fun j => if j = b then f b else g j) (by simp [hab, hv]) (fun i hi hne => by
    by_cases h1 : i = b
    · subst h1; simp
    · simp [h1, h i hi hne h1])]
  exact ten_set hw fun i hi hne => by simp [hne]
set_option maxHeartbeats 4000000 in
set_option maxRecDepth 16000 in
theorem mmul {A B M R T N : Nat} (hA : A < W) (hB : B < W) (hM : M < W) (ho : M % 2 = 1) (hN : (M * N + 1) % 4294967296 = 0) (hNl : N < 4294967296) (hAB : A * B < M * W) :
    ASpec Try.prog 97 [mont M R T N, num A, num B] (num (redc M (A * B))) := by
  refine ASpec.start 1000 Try.func97 (fn := Try.f97) rfl (by decide) mixed (by kernel_rfl) (by simp) ?_
  have h0W : 0 < W := W_pos
  simp (disch := omega) [ini, upd_eq, tyNum, tyMont, tyTen]
  refine goT_count (fun i => [(3, .ptr 0 0), (5, .ptr 2 0), (6, .ptr 3 0), (7, .ptr 4 0), (22, num A), (23, .int .i64 (i : Nat))])
    (fun i => [(0, ⟨montL M R T N, true⟩), (2, ⟨numL B, true⟩), (3, ⟨numL 0, true⟩), (4, ⟨ten (w0 A B M N i), true⟩)]) 5 8 ?_ ?_ ?_
  · intro i hi IH
    have hT := cT_lt (A := A) hN hB (show 0 < M by omega) i
    have hT1 := cT_lt (A := A) hN hB (show 0 < M by omega) (i + 1)
    have hal := limb_lt A i
    refine goT_round mixed 100 ?_
    simp (disch := omega) [st_eq, upd_eq, tyNum, numL_get hi, show (i : Int) < 8 by omega]
    refine goT_count (fun k => [(3, .ptr 0 0), (5, .ptr 2 0), (6, .ptr 3 0), (7, .ptr 4 0), (22, num A), (23, .int .i64 (i : Nat)), (9, limbA A i), (10, .int .u64 (mcar (limb A i) B (cT A B M N i) k : Nat)), (26, num B), (27, .int .i64 (k : Nat))])
      (fun k => [(0, ⟨montL M R T N, true⟩), (2, ⟨numL B, true⟩), (3, ⟨numL 0, true⟩), (4, ⟨ten (w1 A B M N i k), true⟩)]) 5 8 ?_ ?_ ?_
    · intro k hk IH'
      refine goT_round mixed 100 ?_
      have hs := mcar_step (limb A i) B (cT A B M N i) k
      have hc := mcar_lt (a := limb A i) (B := B) (Y := cT A B M N i) (k := k) hal
      have hc1 := mcar_lt (a := limb A i) (B := B) (Y := cT A B M N i) (k := k + 1) hal
      have hg := ten_get (f := w1 A B M N i k) (show k < 10 by omega)
      have hw : w1 A B M N i k k = limb (cT A B M N i) k := by rw [w1, if_neg (by omega), w0, if_pos (by omega)]
      rw [hw] at hg
      have hset : ∀ v : Int, v = (limb (limb A i * B + cT A B M N i) k : Nat) → (ten (w1 A B M N i k)).set k (.int .u64 v) = ten (w1 A B M N i (k + 1)) := fun v hv => ten_set (by rw [hv, w1, if_pos (by omega)]; rfl) (fun j hj hne => by
        unfold w1
        by_cases h : j < k
        · rw [if_pos h, if_pos (by omega)]
        · rw [if_neg h, if_neg (by omega)])
      have hy := limb_lt (cT A B M N i) k
      have hb := limb_lt B k
      have hl := limb_lt (limb A i * B + cT A B M N i) k
      have hm : limb A i * limb B k ≤ 4294967295 * 4294967295 := Nat.mul_le_mul (by omega) (by omega)
      have e0 : (limb A i : Int) * limb B k = (limb A i * limb B k : Nat) := rfl
      generalize limb A i * limb B k = m at *
      have e1 : bitsA .and .u64 ((limb (cT A B M N i) k : Int) + m + mcar (limb A i) B (cT A B M N i) k) 4294967295 = ((limb (limb A i * B + cT A B M N i) k : Nat) : Int) := by
        have := low64 (s := limb (cT A B M N i) k + m + mcar (limb A i) B (cT A B M N i) k) (by omega)
        rw [show (limb (cT A B M N i) k + m + mcar (limb A i) B (cT A B M N i) k) % 4294967296 = limb (limb A i * B + cT A B M N i) k by omega] at this
        rw [← this]; congr 1
      have e2 : ((limb (cT A B M N i) k : Int) + m + mcar (limb A i) B (cT A B M N i) k) / 4294967296 = mcar (limb A i) B (cT A B M N i) (k + 1) := by omega
      simp (disch := omega) [st_eq, upd_eq, tyNum, tyTen, tyU32, tyU64, tyInt, show (k : Int) < 8 by omega, show (k : Int) < 10 by omega, show k < 10 by omega, numL_get hk, limbA_def, hg, e0, in_u64, in_i64, e1, e2, binA_shr, store_int]
      refine IH' _ ⟨by simp [upd_eq, refsLt, limbA_def], ?_⟩
      simp [upd_eq]
      exact hset _ rfl
    · refine goT_round mixed 200 ?_
      have hTW : cT A B M N i < 2 * W := by omega
      have hT1W : cT A B M N (i + 1) < 2 * W := by omega
      have hc8 := mcar_lt (a := limb A i) (B := B) (Y := cT A B M N i) (k := 8) hal
      have htop := mcar_top (a := limb A i) (Y := cT A B M N i) hB
      have hTq : cT A B M N i / W < 2 := Nat.div_lt_of_lt_mul (by omega)
      have hl8 : limb (cT A B M N i) 8 = cT A B M N i / W := by rw [limb_8]; exact Nat.mod_eq_of_lt (by omega)
      have hp8 : limb (cTp A B M N i) 8 = (limb (cT A B M N i) 8 + mcar (limb A i) B (cT A B M N i) 8) % 4294967296 := by
        rw [limb_8, cTp, htop, hl8, Nat.add_comm]
      have hp9 : limb (cTp A B M N i) 9 = (limb (cT A B M N i) 8 + mcar (limb A i) B (cT A B M N i) 8) / 4294967296 := by
        rw [limb_9, cTp, htop, hl8, Nat.add_comm (mcar _ _ _ _)]
        exact Nat.mod_eq_of_lt (by omega)
      have hpW : cTp A B M N i / W = limb (cT A B M N i) 8 + mcar (limb A i) B (cT A B M N i) 8 := by rw [cTp, htop, hl8, Nat.add_comm]
      have hg8 := ten_get (f := w1 A B M N i 8) (show 8 < 10 by omega)
      have hw8 : w1 A B M N i 8 8 = limb (cT A B M N i) 8 := by rw [w1, if_neg (by omega), w0, if_pos (by omega)]
      rw [hw8] at hg8
      obtain ⟨s, hs⟩ : ∃ s, s = limb (cT A B M N i) 8 + mcar (limb A i) B (cT A B M N i) 8 := ⟨_, rfl⟩
      have hl88 := limb_lt (cT A B M N i) 8
      rw [← hs] at hp8 hp9 hpW
      have e0 : (limb (cT A B M N i) 8 : Int) + mcar (limb A i) B (cT A B M N i) 8 = (s : Nat) := by omega
      have e1 : bitsA .and .u64 (s : Int) 4294967295 = ((limb (cTp A B M N i) 8 : Nat) : Int) := by rw [hp8]; exact low64 (by omega)
      have e2 : (s : Int) / 4294967296 = ((limb (cTp A B M N i) 9 : Nat) : Int) := by rw [hp9]; omega
      have hset1 : ((ten (w1 A B M N i 8)).set 8 (.int .u64 (limb (cTp A B M N i) 8 : Nat))).set 9 (.int .u64 (limb (cTp A B M N i) 9 : Nat)) = ten (limb (cTp A B M N i)) :=
        ten_set2 (by decide) rfl rfl (fun j hj h8 h9 => by rw [w1, if_pos (by omega)])
      simp (disch := omega) [st_eq, upd_eq, tyNum, tyTen, tyMont, tyU32, tyU64, hg8, in_u64, e0, e1, e2, binA_shr, store_int, hset1]
      have hg0 := ten_get (f := limb (cTp A B M N i)) (show 0 < 10 by decide)
      obtain ⟨q, hq⟩ : ∃ q, q = cq A B M N i := ⟨_, rfl⟩
      have hql := cq_lt (A := A) (B := B) (M := M) (N := N) i
      rw [← hq] at hql
      have hU : cU A B M N i = q * M + cTp A B M N i := by rw [hq]; rfl
      have eq1 : (limb (cTp A B M N i) 0 : Int) * N % 4294967296 = (q : Nat) := by
        have hq' : q = limb (cTp A B M N i) 0 * N % 4294967296 := by rw [hq, cq, limb_0]
        rw [show (limb (cTp A B M N i) 0 : Int) * N = ((limb (cTp A B M N i) 0 * N : Nat) : Int) from rfl]
        omega
      have hp0 := limb_lt (cTp A B M N i) 0
      have hM0 := limb_lt M 0
      have hmc := mcar_step q M (cTp A B M N i) 0
      have hu0 : limb (q * M + cTp A B M N i) 0 = 0 := by rw [← hU, limb_0]; exact cU_mod hN i
      rw [mcar_zero, hu0] at hmc
      simp only [Nat.zero_add, Nat.add_zero] at hmc
      have hm : q * limb M 0 ≤ 4294967295 * 4294967295 := Nat.mul_le_mul (by omega) (by omega)
      have em : (q : Int) * limb M 0 = (q * limb M 0 : Nat) := rfl
      generalize q * limb M 0 = qm at *
      have e3 : ((limb (cTp A B M N i) 0 : Int) + qm) / 4294967296 = mcar q M (cTp A B M N i) 1 := by omega
      simp (disch := omega) [upd_eq, hg0, tyMont, tyTen, tyNum, tyU32, tyU64, in_u32, in_u64, w_u32, eq1, em, e3, binA_shr, montL_M (show 0 < 8 by decide), limbA_def]
      refine goT_count (fun k => [(3, .ptr 0 0), (5, .ptr 2 0), (6, .ptr 3 0), (7, .ptr 4 0), (22, num A), (23, .int .i64 (i : Nat)), (15, .int .u64 (q : Nat)), (10, .int .u64 (mcar q M (cTp A B M N i) (k + 1) : Nat)), (16, .int .i64 ((k + 1 : Nat) : Int))])
        (fun k => [(0, ⟨montL M R T N, true⟩), (2, ⟨numL B, true⟩), (3, ⟨numL 0, true⟩), (4, ⟨ten (w2 A B M N i (k + 1)), true⟩)]) 5 7 ?_ ?_ ?_
      · intro k0 hk IH'
        obtain ⟨k, hk0⟩ : ∃ k, k = k0 + 1 := ⟨_, rfl⟩
        rw [← hk0] at IH' ⊢
        refine goT_round mixed 100 ?_
        have hs := mcar_step q M (cTp A B M N i) k
        have hc := mcar_lt (a := q) (B := M) (Y := cTp A B M N i) (k := k) hql
        have hc1 := mcar_lt (a := q) (B := M) (Y := cTp A B M N i) (k := k + 1) hql
        have hg := ten_get (f := w2 A B M N i k) (show k < 10 by omega)
        have hw : w2 A B M N i k k = limb (cTp A B M N i) k := by rw [w2, if_neg (by omega)]
        rw [hw] at hg
        rw [← hU] at hs
        have hset : (ten (w2 A B M N i k)).set (k - 1) (.int .u64 (limb (cU A B M N i) k : Nat)) = ten (w2 A B M N i (k + 1)) := ten_set (by rw [w2, if_pos (by omega), show k - 1 + 1 = k by omega]) (fun j hj hne => by
          unfold w2
          by_cases h : j + 1 < k
          · rw [if_pos h, if_pos (by omega)]
          · rw [if_neg h, if_neg (by omega)])
        have hy := limb_lt (cTp A B M N i) k
        have hb := limb_lt M k
        have hl := limb_lt (cU A B M N i) k
        have hm : q * limb M k ≤ 4294967295 * 4294967295 := Nat.mul_le_mul (by omega) (by omega)
        have em : (q : Int) * limb M k = (q * limb M k : Nat) := rfl
        generalize q * limb M k = m at *
        obtain ⟨s, hs2⟩ : ∃ s, s = limb (cTp A B M N i) k + m + mcar q M (cTp A B M N i) k := ⟨_, rfl⟩
        have e0 : (limb (cTp A B M N i) k : Int) + m + mcar q M (cTp A B M N i) k = (s : Nat) := by omega
        have e1 : bitsA .and .u64 (s : Int) 4294967295 = ((limb (cU A B M N i) k : Nat) : Int) := by
          rw [show limb (cU A B M N i) k = s % 4294967296 by omega]; exact low64 (by omega)
        have e2 : (s : Int) / 4294967296 = ((mcar q M (cTp A B M N i) (k + 1) : Nat) : Int) := by omega
        have ek : ((k : Int) - 1).toNat = k - 1 := by omega
        simp (disch := omega) [st_eq, upd_eq, tyNum, tyTen, tyMont, tyU32, tyU64, tyInt, show (k : Int) < 8 by omega, show (k : Int) < 10 by omega, show k < 10 by omega, show k < 8 by omega, montL_M (show k < 8 by omega), limbA_def, hg, em, in_u64, in_i64, e0, e1, e2, ek, show (k : Int) - 1 < 10 by omega, show 0 ≤ (k : Int) - 1 by omega, show k - 1 < 10 by omega, show (1 : Int) ≤ k by omega, binA_shr, store_int]
        refine IH' _ ⟨by simp [upd_eq, refsLt], ?_⟩
        simp [upd_eq]
        exact hset
      · refine goT_round mixed 200 ?_
        have hc8 := mcar_lt (a := q) (B := M) (Y := cTp A B M N i) (k := 8) hql
        have htop := mcar_top (a := q) (Y := cTp A B M N i) hM
        have hpb8 := limb_lt (cTp A B M N i) 8
        have hsq : s < 8589934592 := by omega
        have hp89 : s = limb (cTp A B M N i) 8 + 4294967296 * limb (cTp A B M N i) 9 := by omega
        obtain ⟨v, hv⟩ : ∃ v, v = limb (cTp A B M N i) 8 + mcar q M (cTp A B M N i) 8 := ⟨_, rfl⟩
        have hUW : cU A B M N i / W = v + 4294967296 * limb (cTp A B M N i) 9 := by rw [hU, htop, hpW]; omega
        have hm1 := cT_mul (A := A) (B := B) hN i
        have hUb : cU A B M N i / W / 4294967296 < 2 := by
          rw [Nat.div_div_eq_div_mul, Nat.mul_comm, ← Nat.div_div_eq_div_mul, ← cT_succ]
          exact Nat.div_lt_of_lt_mul (by omega)
        have hu8 : limb (cU A B M N i) 8 = v % 4294967296 := by rw [limb_8, hUW]; omega
        have hu9 : limb (cU A B M N i) 9 = limb (cTp A B M N i) 9 + v / 4294967296 := by rw [limb_9]; omega
        have hg8 := ten_get (f := w2 A B M N i 8) (show 8 < 10 by omega)
        have hg9 := ten_get (f := w2 A B M N i 8) (show 9 < 10 by omega)
        have hw8 : w2 A B M N i 8 8 = limb (cTp A B M N i) 8 := by rw [w2, if_neg (by omega)]
        have hw9 : w2 A B M N i 8 9 = limb (cTp A B M N i) 9 := by rw [w2, if_neg (by omega)]
        rw [hw8] at hg8
        rw [hw9] at hg9
        have hl9 := limb_lt (cTp A B M N i) 9
        have e0 : (limb (cTp A B M N i) 8 : Int) + mcar q M (cTp A B M N i) 8 = (v : Nat) := by omega
        have e1 : bitsA .and .u64 (v : Int) 4294967295 = ((limb (cU A B M N i) 8 : Nat) : Int) := by rw [hu8]; exact low64 (by omega)
        have e2 : (limb (cTp A B M N i) 9 : Int) + (v : Int) / 4294967296 = ((limb (cU A B M N i) 9 : Nat) : Int) := by rw [hu9]; omega
        have hset : ((ten (w2 A B M N i 8)).set 7 (.int .u64 (limb (cU A B M N i) 8 : Nat))).set 8 (.int .u64 (limb (cU A B M N i) 9 : Nat)) = ten (w0 A B M N (i + 1)) :=
          ten_set2 (by decide) (by rw [w0, if_pos (by omega), cT_succ, limb_next]) (by rw [w0, if_pos (by omega), cT_succ, limb_next]) (fun j hj h7 h8 => by
            unfold w2 w0
            by_cases h : j + 1 < 8
            · rw [if_pos h, if_pos (by omega), cT_succ, limb_next]
            · rw [if_neg h, if_neg (by omega), if_neg (by omega), show j = 9 by omega]; rfl)
        simp (disch := omega) [st_eq, upd_eq, tyTen, tyU64, hg8, hg9, in_u64, in_i64, e0, e1, e2, binA_shr, store_int, hset]
        exact IH _ ⟨by simp [upd_eq, refsLt], by simp [upd_eq]⟩
      · refine ⟨by simp [upd_eq, refsLt], ?_⟩
        simp [upd_eq]
        exact ten_congr fun j _ => by rw [w2, if_neg (by omega)]
    · refine ⟨by simp [upd_eq, refsLt, limbA_def, mcar_zero], ?_⟩
      simp [upd_eq]
      exact ten_congr fun j _ => by simp [w1]
  · refine goT_round mixed 200 ?_
    obtain ⟨hE, hEq⟩ := cT_end (A := A) (B := B) hN hA (show 0 < M by omega) hAB
    have hgt : ∀ j, j < 9 → (ten (w0 A B M N 8))[j]? = some (.int .u64 (limb (cT A B M N 8) j : Nat)) := fun j hj => by
      rw [ten_get (show j < 10 by omega), w0, if_pos hj]
    have hrf : ∀ m, refsLts m (ten (w0 A B M N 8)) = true := fun m => refsLts_ten m _
    generalize ten (w0 A B M N 8) = tl at *
    generalize cT A B M N 8 = E at *
    simp (disch := omega) [st_eq, upd_eq, tyNum]
    refine goT_count (fun i => [(3, .ptr 0 0), (6, .ptr 3 0), (7, .ptr 4 0), (18, .ptr 5 0), (114, .int .i64 (i : Nat))])
      (fun i => [(0, ⟨montL M R T N, true⟩), (3, ⟨numL 0, true⟩), (4, ⟨tl, true⟩), (5, ⟨mixN E 0 i, true⟩)]) 6 8 ?_ ?_ ?_
    · intro i hi IH
      refine goT_round mixed 100 ?_
      have hl := limb_lt E i
      simp (disch := omega) [st_eq, upd_eq, tyNum, tyTen, tyU32, tyU64, show (i : Int) < 8 by omega, show (i : Int) < 10 by omega, hi, hgt i (by omega), in_u32, in_i64, store_int]
      refine IH _ ⟨by simp [upd_eq, refsLt], ?_⟩
      simp [upd_eq, hrf]
      exact mixN_set rfl
    · refine goT_round mixed 200 ?_
      have h8 := hgt 8 (by omega)
      have hO : E % W < W := Nat.mod_lt _ W_pos
      have s1 := sub (E % W) M hO hM
      rw [num_mod E] at s1
      have hl8 : limb E 8 = E / W := by
        rw [limb_8]; exact Nat.mod_eq_of_lt (by have : E / W < 2 := Nat.div_lt_of_lt_mul (by omega); omega)
      have hdm := Nat.div_add_mod E W
      have hq2 : E / W < 2 := Nat.div_lt_of_lt_mul (by omega)
      rw [hl8] at h8
      simp (disch := omega) [st_eq, upd_eq, tyNum, tyMont]
      refine callT_of s1 rfl rfl ?_
      by_cases hlt : E < M
      · have hE0 : E / W = 0 := Nat.div_eq_of_lt (by omega)
        have hEm : E % W = E := Nat.mod_eq_of_lt (by omega)
        rw [hE0] at h8
        have hb0 : bitsA .or .u32 0 0 = 0 := by decide
        have hr : E = redc M (A * B) := redc_uniq ho hlt hEq
        simp (disch := omega) [upd_eq, tyNum, tyTen, tyU32, tyU64, hEm, hlt, h8, in_u32, hb0]
        refine callT_of (pick 0 _ E) rfl rfl ?_
        simp (disch := omega) [upd_eq, tyNum, hr, resA_L Try.results97]
      · have hval : (E % W + W - M) % W = E - M := rest_sub hM hE hlt
        have hr : E - M = redc M (A * B) := by
          refine redc_uniq ho (by omega) ?_
          refine Mq.trans (Mq.trans ?_ (Mq.of_eq (show (E - M) * W + M * W = E * W by rw [← Nat.add_mul]; congr 1; omega))) hEq
          exact Mq.add_mul.symm
        obtain ⟨lent, hlent⟩ : ∃ l : Nat, l = if E % W < M then 1 else 0 := ⟨_, rfl⟩
        obtain ⟨y, hy, ey⟩ : ∃ y : Nat, y ≠ 0 ∧ bitsA .or .u32 (IntKind.u32.wrap ((E / W : Nat) : Int)) (IntKind.u32.wrap (1 - (lent : Int))) = (y : Nat) := by
          refine ⟨1, by decide, ?_⟩
          generalize E / W = t at *
          rcases (by omega : t = 0 ∨ t = 1) with rfl | rfl
          · have : lent = 0 := by rw [hlent, if_neg (by omega)]
            subst this; decide
          · rw [hlent]; split <;> decide
        rw [hval, ← hlent]
        simp (disch := omega) [upd_eq, tyNum, tyTen, tyU32, tyU64, h8]
        rw [show ((E : Int) / W) = ((E / W : Nat) : Int) from (Int.natCast_ediv _ _).symm, ey]
        refine callT_of (pick y _ E) rfl rfl ?_
        simp (disch := omega) [upd_eq, tyNum, hy, hr, resA_L Try.results97]
    · refine ⟨by simp [upd_eq, refsLt], ?_⟩
      simp [upd_eq, hrf]
  · refine ⟨by simp [upd_eq, refsLt], ?_⟩
    simp [upd_eq]
    exact ten_congr fun j _ => by unfold w0; simp [cT]; intro _; simp [limb_def]
end Go.Proofs.Ytgefihgogfkjoaa
