import Derived.Test.YtgefihgogfkjoaaMontB
set_option linter.unusedSimpArgs false
set_option linter.unusedVariables false
/-! Numbers by a safe prime: how they lie; what a prime is; Fermat's little theorem. -/
namespace Go.Proofs.Ytgefihgogfkjoaa
open Go.Am

noncomputable def groupL (B : Int) (P Q G : Nat) : List AV := .int .i64 B :: (numL P ++ (numL Q ++ numL G))
noncomputable def group (B : Int) (P Q G : Nat) : AV := .agg (groupL B P Q G)
def groupF : List (Nat × Nat × Bool) := [(0, 1, false), (1, 8, true), (9, 8, true), (17, 8, true)]
theorem tyGroup : tyI Try.prog 29 = some ⟨25, 104, true, groupL 0 0 0 0, .struct groupF⟩ := by unfold groupL; rw [numL_zero]; kernel_rfl
@[simp] theorem groupL_length (B : Int) (P Q G : Nat) : (groupL B P Q G).length = 25 := by simp [groupL]
@[simp] theorem noRefs_groupL (B : Int) (P Q G : Nat) : noRefs (groupL B P Q G) = true := by simp [groupL, noRefs_append, noRefs, noRef]
@[simp] theorem flats_groupL (B : Int) (P Q G : Nat) : flats (groupL B P Q G) = true := by simp [groupL, flats_append, flats, flat]
@[simp] theorem refsLts_groupL (m : Nat) (B : Int) (P Q G : Nat) : refsLts m (groupL B P Q G) = true := by simp [groupL, refsLts_append, refsLts, refsLt]
@[simp] theorem rens_groupL (ρ : Nat → Nat) (B : Int) (P Q G : Nat) : rens ρ (groupL B P Q G) = groupL B P Q G := by simp [groupL, rens_append, rens, ren]
@[simp] theorem leaf_groupL (B : Int) (P Q G : Nat) : (groupL B P Q G).all leafOk = true := by simp [groupL, leafOk]
@[simp] theorem cellsA_group (B : Int) (P Q G : Nat) : cellsA (group B P Q G) = some (groupL B P Q G) := (rfl)
@[simp] theorem noRef_group (B : Int) (P Q G : Nat) : noRef (group B P Q G) = true := by simp [group, noRef]
@[simp] theorem refsLt_group (m : Nat) (B : Int) (P Q G : Nat) : refsLt m (group B P Q G) = true := by simp [group, refsLt]
@[simp] theorem view_group (h : HP) (B : Int) (P Q G : Nat) : view h (group B P Q G) = group B P Q G := by simp [group, view]
@[simp] theorem segG_B (B : Int) (P Q G : Nat) : (groupL B P Q G)[0]? = some (.int .i64 B) := (rfl)
@[simp] theorem segG_P (B : Int) (P Q G : Nat) : segA (groupL B P Q G) 1 8 = some (num P) := (rfl)
@[simp] theorem segG_Q (B : Int) (P Q G : Nat) : segA (groupL B P Q G) 9 8 = some (num Q) := (rfl)
@[simp] theorem segG_G (B : Int) (P Q G : Nat) : segA (groupL B P Q G) 17 8 = some (num G) := (rfl)
@[simp] theorem segG_all (B : Int) (P Q G : Nat) : segA (groupL B P Q G) 0 25 = some (group B P Q G) := (rfl)
@[simp] theorem putG_all (B : Int) (P Q G : Nat) (B' : Int) (P' Q' G' : Nat) : putSeg (groupL B P Q G) 0 (groupL B' P' Q' G') = some (groupL B' P' Q' G') := putSeg_all (by simp)
@[simp] theorem build_group0 : buildA ⟨25, 104, true, groupL 0 0 0 0, .struct groupF⟩ [] = some (group 0 0 0 0) := (rfl)
@[simp] theorem build_group4 (B : Int) (P Q G : Nat) : buildA ⟨25, 104, true, groupL 0 0 0 0, .struct groupF⟩ [(0, .int .i64 B), (1, num P), (2, num Q), (3, num G)] = some (group B P Q G) := (rfl)
@[simp] theorem store_group {B : Int} {P Q G b id off nt : Nat} {a : Bool} {z : List AV} {td : TD} {bk : Nat → Option Blk} : storeA ⟨25, b, a, z, td⟩ ⟨bk, nt⟩ (.ptr id off) (group B P Q G) = blkT (bk id) fun k => (putSeg k.cs off (groupL B P Q G)).map fun cs => ⟨upd bk id (some ⟨cs, k.fix⟩), nt⟩ :=
  store_agg (by simp) (by simp)
theorem nthG0 : nth groupF 0 = some (0, 1, false) := rfl
theorem nthG1 : nth groupF 1 = some (1, 8, true) := rfl
theorem nthG2 : nth groupF 2 = some (9, 8, true) := rfl
theorem nthG3 : nth groupF 3 = some (17, 8, true) := rfl
attribute [simp] nthG0 nthG1 nthG2 nthG3

/-- what the program holds for a prime -/
def PrimeP (n : Int) : Prop := 2 ≤ n ∧ n < 2147483648 ∧ ∀ d : Int, 2 ≤ d → d * d ≤ n → n % d ≠ 0
/-- where the search for a divisor ends -/
theorem prime_end {n : Int} (h2 : 2 ≤ n) : ∃ M : Nat, (∀ i : Nat, i < M → ((i : Int) + 2) * ((i : Int) + 2) ≤ n ∧ n % ((i : Int) + 2) ≠ 0) ∧ (n < ((M : Int) + 2) * ((M : Int) + 2) ∨ n % ((M : Int) + 2) = 0) := by
  have key : ∀ k : Nat, (∃ M : Nat, (∀ i : Nat, i < M → ((i : Int) + 2) * ((i : Int) + 2) ≤ n ∧ n % ((i : Int) + 2) ≠ 0) ∧ (n < ((M : Int) + 2) * ((M : Int) + 2) ∨ n % ((M : Int) + 2) = 0)) ∨ (∀ i : Nat, i < k → ((i : Int) + 2) * ((i : Int) + 2) ≤ n ∧ n % ((i : Int) + 2) ≠ 0) := by
    intro k
    induction k with
    | zero => exact .inr fun i hi => absurd hi (by omega)
    | succ k ih =>
      rcases ih with h | h
      · exact .inl h
      · by_cases hk : n < ((k : Int) + 2) * ((k : Int) + 2) ∨ n % ((k : Int) + 2) = 0
        · exact .inl ⟨k, h, hk⟩
        · refine .inr fun i hi => ?_
          rcases Nat.lt_or_eq_of_le (Nat.le_of_lt_succ hi) with h' | rfl
          · exact h i h'
          · exact ⟨by omega, fun he => hk (.inr he)⟩
  rcases key (n.toNat + 1) with h | h
  · exact h
  · exfalso
    have := (h n.toNat (by omega)).1
    rw [Int.toNat_of_nonneg (by omega)] at this
    have h3 : (n + 2) * 1 ≤ (n + 2) * (n + 2) := Int.mul_le_mul_of_nonneg_left (by omega) (by omega)
    omega
theorem prime_no {n : Int} (h : ¬ PrimeP n) (h2 : 2 ≤ n) (hn : n < 2147483648) : ∃ d : Int, 2 ≤ d ∧ d * d ≤ n ∧ n % d = 0 := by
  apply Classical.byContradiction
  intro hc
  exact h ⟨h2, hn, fun d hd hdd he => hc ⟨d, hd, hdd, he⟩⟩
theorem sq_lt {a b : Int} (ha : 0 ≤ a) (h : a < b) : a * a < b * b := by
  have h1 : a * a ≤ a * b := Int.mul_le_mul_of_nonneg_left (by omega) ha
  have h2 : a * b < b * b := Int.mul_lt_mul_of_pos_right h (by omega)
  omega
open Classical in
theorem rprime (n : Int) (hn : -9223372036854775808 ≤ n ∧ n < 9223372036854775808) : ASpec Try.prog 73 [.int .i64 n] (.bool (decide (PrimeP n))) := by
  refine ASpec.start 1000 Try.func73 (fn := Try.f73) rfl (by decide) mixed (by kernel_rfl) (by simp) ?_
  by_cases h2 : n < 2
  · have hP : ¬ PrimeP n := fun h => by have := h.1; omega
    simp (disch := omega) [ini, upd_eq, h2, hP, resA_L Try.results73]
  by_cases hb : n < 2147483648
  case neg =>
    have hP : ¬ PrimeP n := fun h => by have := h.2.1; omega
    simp (disch := omega) [ini, upd_eq, h2, show (2147483648 : Int) ≤ n by omega, hP, resA_L Try.results73]
  simp (disch := omega) [ini, upd_eq, h2, show ¬ (2147483648 : Int) ≤ n by omega]
  obtain ⟨M, hM, hE⟩ := prime_end (n := n) (by omega)
  have hM46 : M ≤ 46341 := by
    apply Classical.byContradiction
    intro hc
    have h3 := (hM (M - 1) (by omega)).1
    have h4 : (46341 : Int) * 46341 ≤ ((M - 1 : Nat) + 2) * ((M - 1 : Nat) + 2) := Int.mul_le_mul (by omega) (by omega) (by omega) (by omega)
    omega
  have hsq : ∀ i : Nat, i ≤ M → ((i : Int) + 2) * ((i : Int) + 2) ≤ 2147766649 ∧ 0 ≤ ((i : Int) + 2) * ((i : Int) + 2) := by
    intro i hi
    have h4 : ((i : Int) + 2) * ((i : Int) + 2) ≤ 46343 * 46343 := Int.mul_le_mul (by omega) (by omega) (by omega) (by omega)
    have h5 : (0 : Int) ≤ ((i : Int) + 2) * ((i : Int) + 2) := Int.mul_nonneg (by omega) (by omega)
    omega
  refine goT_count (fun i => [(0, .int .i64 n), (3, .int .i64 ((i : Int) + 2))]) (fun _ => []) 0 M ?_ ?_ ?_
  · intro i hi IH
    refine goT_round mixed 100 ?_
    obtain ⟨h3, h4⟩ := hM i hi
    obtain ⟨h5, h6⟩ := hsq i (by omega)
    have hm := Int.emod_nonneg n (show (i : Int) + 2 ≠ 0 by omega)
    have hm2 := Int.emod_lt_of_pos n (show 0 < (i : Int) + 2 by omega)
    have hmul : IntKind.i64.wrap (((i : Int) + 2) * ((i : Int) + 2)) = ((i : Int) + 2) * ((i : Int) + 2) := in_i64 (by omega) (by omega)
    have ht : Int.tmod n ((i : Int) + 2) = n % ((i : Int) + 2) := Int.tmod_eq_emod_of_nonneg (by omega)
    simp (disch := omega) [st_eq, upd_eq, hmul, h3, binA_rem, in_i64, show (n % ((i : Int) + 2) == 0) = false from beq_false_of_ne h4]
    exact IH _ ⟨by simp [upd_eq, refsLt]; omega, by simp⟩
  · refine goT_round mixed 100 ?_
    obtain ⟨h5, h6⟩ := hsq M (by omega)
    have hmul : IntKind.i64.wrap (((M : Int) + 2) * ((M : Int) + 2)) = ((M : Int) + 2) * ((M : Int) + 2) := in_i64 (by omega) (by omega)
    by_cases hle : ((M : Int) + 2) * ((M : Int) + 2) ≤ n
    · have hz : n % ((M : Int) + 2) = 0 := by rcases hE with h | h <;> omega
      have hP : ¬ PrimeP n := fun h => h.2.2 _ (by omega) hle hz
      simp (disch := omega) [st_eq, upd_eq, hmul, hle, binA_rem, in_i64, hz, hP, resA_L Try.results73]
    · have hP : PrimeP n := ⟨by omega, by omega, fun d hd hdd => by
        rcases (by omega : d < (M : Int) + 2 ∨ (M : Int) + 2 ≤ d) with h | h
        · have := (hM (d - 2).toNat (by omega)).2
          rwa [Int.toNat_of_nonneg (by omega), show d - 2 + 2 = d by omega] at this
        · exfalso
          have : ((M : Int) + 2) * ((M : Int) + 2) ≤ d * d := Int.mul_le_mul h h (by omega) (by omega)
          omega⟩
      simp (disch := omega) [st_eq, upd_eq, hmul, hle, hP, resA_L Try.results73]
  · exact ⟨by simp [upd_eq, refsLt], by simp⟩

/-! Fermat's little theorem. -/
def chs : Nat → Nat → Nat
  | _, 0 => 1
  | 0, _ + 1 => 0
  | n + 1, k + 1 => chs n k + chs n (k + 1)
def bsum (a n : Nat) : Nat → Nat
  | 0 => 0
  | m + 1 => bsum a n m + chs n m * a ^ m
theorem chs_zero (n : Nat) : chs n 0 = 1 := by cases n <;> rfl
theorem chs_over : ∀ {n k : Nat}, n < k → chs n k = 0
  | 0, 0, h => absurd h (by omega)
  | 0, _ + 1, _ => rfl
  | _ + 1, 0, h => absurd h (by omega)
  | n + 1, k + 1, h => by rw [chs, chs_over (by omega), chs_over (by omega)]
theorem chs_self : ∀ n : Nat, chs n n = 1
  | 0 => rfl
  | n + 1 => by rw [chs, chs_self n, chs_over (by omega)]
theorem chs_mul : ∀ n k : Nat, (k + 1) * chs (n + 1) (k + 1) = (n + 1) * chs n k
  | 0, 0 => rfl
  | 0, k + 1 => by simp [chs]
  | n + 1, 0 => by
    have h := chs_mul n 0
    rw [chs_zero] at h ⊢
    rw [chs, chs_zero]
    omega
  | n + 1, k + 1 => by
    have h1 := chs_mul n k
    have h2 := chs_mul n (k + 1)
    rw [chs, Nat.mul_add]
    rw [show chs (n + 1) (k + 1) = chs n k + chs n (k + 1) from rfl] at *
    generalize chs n k = x at *
    generalize chs n (k + 1) = y at *
    generalize chs (n + 1) (k + 1 + 1) = z at *
    grind
theorem bsum_step (a n : Nat) : ∀ m, bsum a (n + 1) (m + 1) = bsum a n (m + 1) + a * bsum a n m
  | 0 => by simp [bsum, chs_zero]
  | m + 1 => by
    have h := bsum_step a n m
    rw [bsum, h, bsum, show chs (n + 1) (m + 1) = chs n m + chs n (m + 1) from rfl]
    rw [show bsum a n (m + 1 + 1) = bsum a n (m + 1) + chs n (m + 1) * a ^ (m + 1) from rfl, show bsum a n (m + 1) = bsum a n m + chs n m * a ^ m from rfl]
    rw [Nat.pow_succ]
    grind
theorem bsum_all (a : Nat) : ∀ n, bsum a n (n + 1) = (a + 1) ^ n
  | 0 => by simp [bsum, chs]
  | n + 1 => by
    have h := bsum_all a n
    rw [bsum_step, show bsum a n (n + 1 + 1) = bsum a n (n + 1) + chs n (n + 1) * a ^ (n + 1) from rfl, chs_over (by omega), h, Nat.pow_succ]
    grind
/-- no number below it, but for 0, has a divisor with it -/
def PrimeN (p : Nat) : Prop := 2 ≤ p ∧ ∀ k, 0 < k → k < p → Nat.gcd p k = 1
theorem chs_dvd {p k : Nat} (hp : PrimeN p) (h0 : 0 < k) (hk : k < p) : p ∣ chs p k := by
  obtain ⟨n, rfl⟩ : ∃ n, p = n + 1 := ⟨p - 1, by omega⟩
  obtain ⟨j, rfl⟩ : ∃ j, k = j + 1 := ⟨k - 1, by omega⟩
  have h := chs_mul n j
  have hd : n + 1 ∣ (j + 1) * chs (n + 1) (j + 1) := ⟨chs n j, h⟩
  exact Nat.Coprime.dvd_of_dvd_mul_left (hp.2 _ h0 hk) hd
theorem bsum_mod {a p : Nat} (hp : PrimeN p) : ∀ m, m < p → bsum a p (m + 1) % p = 1 % p
  | 0, _ => by simp [bsum, chs_zero]
  | m + 1, h => by
    have hi := bsum_mod (a := a) hp m (by omega)
    obtain ⟨c, hc⟩ := chs_dvd hp (Nat.succ_pos m) h
    rw [bsum, hc, Nat.mul_assoc, Nat.add_mul_mod_self_left, hi]
theorem pow_succ_mod {a p : Nat} (hp : PrimeN p) : (a + 1) ^ p % p = (a ^ p + 1) % p := by
  obtain ⟨n, rfl⟩ : ∃ n, p = n + 1 := ⟨p - 1, by have := hp.1; omega⟩
  rw [← bsum_all, bsum, chs_self, Nat.one_mul, Nat.add_mod, bsum_mod hp n (by omega), ← Nat.add_mod, Nat.add_comm 1]
theorem fermat_all {p : Nat} (hp : PrimeN p) : ∀ a, a ^ p % p = a % p
  | 0 => by rw [Nat.zero_pow (by have := hp.1; omega)]
  | a + 1 => by rw [pow_succ_mod hp, Nat.add_mod, fermat_all hp a, ← Nat.add_mod]
theorem fermat {p a : Nat} (hp : PrimeN p) (ha : a % p ≠ 0) : a ^ (p - 1) % p = 1 := by
  have h2 := hp.1
  have h := fermat_all hp (a % p)
  have hlt := Nat.mod_lt a (show 0 < p by omega)
  have hc := hp.2 (a % p) (by omega) hlt
  have hpow : (a % p) ^ p = (a % p) * (a % p) ^ (p - 1) := by
    rw [← Nat.pow_succ']; congr 1; omega
  rw [Nat.pow_mod] 
  generalize a % p = b at *
  have hpos : 0 < b ^ (p - 1) := Nat.pow_pos (by omega)
  rw [hpow] at h
  have hd : p ∣ b * (b ^ (p - 1) - 1) := by
    rw [Nat.mul_sub, Nat.mul_one]
    exact Nat.dvd_of_mod_eq_zero (Nat.sub_mod_eq_zero_of_mod_eq h)
  have hd2 : p ∣ b ^ (p - 1) - 1 := Nat.Coprime.dvd_of_dvd_mul_left hc hd
  obtain ⟨c, hc3⟩ := hd2
  rw [show b ^ (p - 1) = 1 + p * c by omega, Nat.add_mul_mod_self_left, Nat.mod_eq_of_lt (by omega)]
theorem primeN_of {n : Nat} (h : PrimeP n) : PrimeN n := by
  obtain ⟨h2, _, hd⟩ := h
  refine ⟨by omega, fun k h0 hk => ?_⟩
  apply Classical.byContradiction
  intro hg
  have hg0 : 0 < Nat.gcd n k := Nat.gcd_pos_of_pos_right _ h0
  have hgk : Nat.gcd n k ≤ k := Nat.gcd_le_right _ h0
  obtain ⟨c, hc⟩ := Nat.gcd_dvd_left n k
  generalize Nat.gcd n k = g at *
  have key : ∀ d e : Nat, 2 ≤ d → n = d * e → d * d ≤ n → False := by
    intro d e hd2 he hdd
    refine hd (d : Int) (by omega) (by exact_mod_cast hdd) ?_
    rw [he]
    have : ((d * e : Nat) : Int) % (d : Int) = ((d * e % d : Nat) : Int) := (Int.natCast_emod _ _).symm
    rw [this, Nat.mul_mod_right]; rfl
  have hc2 : 2 ≤ c := by
    rcases (by omega : c = 0 ∨ c = 1 ∨ 2 ≤ c) with rfl | rfl | h
    · omega
    · omega
    · exact h
  rcases Nat.le_total g c with h | h
  · exact key g c (by omega) hc (by rw [hc]; exact Nat.mul_le_mul_left _ h)
  · exact key c g hc2 (by rw [hc, Nat.mul_comm]) (by rw [hc]; exact Nat.mul_le_mul_right _ h)
end Go.Proofs.Ytgefihgogfkjoaa
