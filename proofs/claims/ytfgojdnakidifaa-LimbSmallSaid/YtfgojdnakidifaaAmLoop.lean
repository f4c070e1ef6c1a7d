/-
  'Am', part 21: loops.
-/
import Derived.Test.YtfgojdnakidifaaAmLaws
set_option linter.unusedSimpArgs false
set_option linter.unusedVariables false
namespace Go.Am
variable {P : Program}

def bkl (b : List (Nat × Blk)) (t : Nat) : Option Blk := lk none (b.map fun p => (p.1, some p.2)) t
theorem st_eq (l : List (Nat × AV)) (b : List (Nat × Blk)) (n : Nat) : st l b n = ⟨lk .dead l, ⟨bkl b, n⟩⟩ := (rfl)
@[simp] theorem bkl_nil {t : Nat} : bkl [] t = none := (rfl)
@[simp] theorem bkl_cons {p : Nat × Blk} {b : List (Nat × Blk)} {t : Nat} : bkl (p :: b) t = if t = p.1 then some p.2 else bkl b t := (rfl)
@[simp] theorem lk_nil {α : Type} {d : α} {t : Nat} : lk d [] t = d := (rfl)
@[simp] theorem lk_cons {α : Type} {d v : α} {k t : Nat} {l : List (Nat × α)} : lk d ((k, v) :: l) t = if t = k then v else lk d l t := (rfl)

/-- The state σ is at least 'st l b n'. -/
def Has (l : List (Nat × AV)) (b : List (Nat × Blk)) (n : Nat) (σ : AS) : Prop :=
  (∀ p ∈ l, p.2 = σ.tm p.1 ∧ refsLt n p.2 = true) ∧ (∀ p ∈ b, p.1 < n ∧ refsLts n p.2.cs = true ∧ σ.h.bk p.1 = some p.2)

theorem goT_has {fn : FnE} {todo : List Item} {σ : AS} {r : AV} {t1 t2 t3} {l : List (Nat × AV)} {b : List (Nat × Blk)} {n : Nat} (h : goT P fn todo r ⟨⟩ ⟨⟩ ⟨⟩ (st l b n)) (hh : Has l b n σ) : goT P fn todo r t1 t2 t3 σ := goT_weak0 h hh.1 hh.2

/-- A loop that counts i from 0 to M. -/
theorem goT_count {fn : FnE} {todo : List Item} {σ : AS} {r : AV} {t1 t2 t3} (l : Nat → List (Nat × AV)) (b : Nat → List (Nat × Blk)) (nt M : Nat)
    (round : ∀ i, i < M → (∀ σ', Has (l (i + 1)) (b (i + 1)) nt σ' → goT P fn todo r ⟨⟩ ⟨⟩ ⟨⟩ σ') → goT P fn todo r ⟨⟩ ⟨⟩ ⟨⟩ (st (l i) (b i) nt))
    (last : goT P fn todo r ⟨⟩ ⟨⟩ ⟨⟩ (st (l M) (b M) nt)) (h0 : Has (l 0) (b 0) nt σ) : goT P fn todo r t1 t2 t3 σ := by
  have key : ∀ d i, i + d = M → goT P fn todo r ⟨⟩ ⟨⟩ ⟨⟩ (st (l i) (b i) nt) := by
    intro d
    induction d with
    | zero => intro i hi; obtain rfl : i = M := by omega
              exact last
    | succ d ih => intro i hi; exact round i (by omega) fun σ' h => goT_has (ih (i + 1) (by omega)) h
  exact goT_has (key M 0 (by omega)) h0

/-- A loop by a measure: at every d the state has S d; a round goes to a smaller one or ends. -/
theorem goT_down {fn : FnE} {todo : List Item} {σ : AS} {r : AV} {t1 t2 t3} {X : Type} (μ : X → Nat) (l : X → List (Nat × AV)) (b : X → List (Nat × Blk)) (nt : Nat) (I : X → Prop)
    (round : ∀ x, I x → (∀ y σ', I y → μ y < μ x → Has (l y) (b y) nt σ' → goT P fn todo r ⟨⟩ ⟨⟩ ⟨⟩ σ') → goT P fn todo r ⟨⟩ ⟨⟩ ⟨⟩ (st (l x) (b x) nt))
    (x0 : X) (hI : I x0) (h0 : Has (l x0) (b x0) nt σ) : goT P fn todo r t1 t2 t3 σ := by
  have key : ∀ n x, μ x = n → I x → goT P fn todo r ⟨⟩ ⟨⟩ ⟨⟩ (st (l x) (b x) nt) := by
    intro n
    induction n using Nat.strongRecOn with
    | _ n ih => intro x hx hi; exact round x hi fun y σ' hy hlt h => goT_has (ih (μ y) (by omega) y rfl hy) h
  exact goT_has (key _ x0 rfl hI) h0

/-! ### An array that is filled from below -/
def mixL (f g : Nat → AV) (n i : Nat) : List AV := famL (fun j => if j < i then f j else g j) n
@[simp] theorem mixL_length (f g : Nat → AV) (n i : Nat) : (mixL f g n i).length = n := by simp [mixL]
theorem mixL_zero (f g : Nat → AV) (n : Nat) : mixL f g n 0 = famL g n := by simp [mixL]
theorem mixL_all (f g : Nat → AV) (n : Nat) : mixL f g n n = famL f n := famL_congr fun i hi => by simp [hi]
theorem mixL_get {f g : Nat → AV} {n i : Nat} (h : i < n) : (mixL f g n i)[i]? = some (g i) := by rw [mixL, famL_get _ _ _ h]; simp
theorem mixL_set {f g : Nat → AV} {n i : Nat} {v : AV} (hv : v = f i) : (mixL f g n i).set i v = mixL f g n (i + 1) := by
  subst hv
  rw [mixL, famL_set]
  refine famL_congr fun j _ => ?_
  unfold upd
  by_cases h1 : j = i
  · subst h1; simp
  · by_cases h2 : j < i
    · simp [h1, h2, show j < i + 1 by omega]
    · simp [h1, h2, show ¬ j < i + 1 by omega]
theorem refsLts_mixL {f g : Nat → AV} {n i m : Nat} (hf : ∀ j, refsLt m (f j) = true) (hg : ∀ j, refsLt m (g j) = true) : refsLts m (mixL f g n i) = true :=
  refsLts_famL fun j _ => by split <;> simp [hf, hg]
/-- numbers -/
noncomputable def mixN (S A i : Nat) : List AV := mixL (limbA S) (limbA A) 8 i
@[simp] theorem mixN_length (S A i : Nat) : (mixN S A i).length = 8 := by simp [mixN]
@[simp] theorem mixN_zero (S A : Nat) : mixN S A 0 = numL A := mixL_zero _ _ _
@[simp] theorem mixN_all (S A : Nat) : mixN S A 8 = numL S := mixL_all _ _ _
theorem mixN_get {S A i : Nat} (h : i < 8) : (mixN S A i)[i]? = some (limbA A i) := mixL_get h
theorem mixN_set {S A i : Nat} {v : AV} (hv : v = limbA S i) : (mixN S A i).set i v = mixN S A (i + 1) := mixL_set hv
@[simp] theorem refsLts_mixN (m S A i : Nat) : refsLts m (mixN S A i) = true := refsLts_mixL (fun _ => rfl) (fun _ => rfl)

theorem limb_lt (N i : Nat) : limb N i < 4294967296 := by rw [limb_def]; exact Nat.mod_lt _ (by decide)
theorem limbA_def (N i : Nat) : limbA N i = .int .u32 (limb N i : Nat) := (rfl)

/-! ### Carries -/
def carry (A B i : Nat) : Nat := (A % 2 ^ (32 * i) + B % 2 ^ (32 * i)) / 2 ^ (32 * i)
theorem carry_zero (A B : Nat) : carry A B 0 = 0 := by simp [carry, Nat.mod_one]
theorem mod_step (A i : Nat) : A % 2 ^ (32 * (i + 1)) = A % 2 ^ (32 * i) + 2 ^ (32 * i) * limb A i := by
  rw [limb_def]
  rw [show 32 * (i + 1) = 32 * i + 32 by omega, Nat.pow_add, Nat.mod_mul]
theorem carry_le (A B i : Nat) : carry A B i ≤ 1 := by
  unfold carry
  have h0 : 0 < 2 ^ (32 * i) := Nat.two_pow_pos _
  have h1 := Nat.mod_lt A h0
  have h2 := Nat.mod_lt B h0
  have : (A % 2 ^ (32 * i) + B % 2 ^ (32 * i)) / 2 ^ (32 * i) < 2 := Nat.div_lt_of_lt_mul (by omega)
  omega
theorem carry_sum (A B i : Nat) : A % 2 ^ (32 * i) + B % 2 ^ (32 * i) = (A + B) % 2 ^ (32 * i) + 2 ^ (32 * i) * carry A B i := by
  have h := Nat.mod_add_div (A % 2 ^ (32 * i) + B % 2 ^ (32 * i)) (2 ^ (32 * i))
  rw [← Nat.add_mod] at h
  unfold carry
  omega
theorem carry_step (A B i : Nat) : limb A i + limb B i + carry A B i = limb (A + B) i + 4294967296 * carry A B (i + 1) := by
  have h0 := carry_sum A B i
  have h1 := carry_sum A B (i + 1)
  rw [mod_step A i, mod_step B i, mod_step (A + B) i] at h1
  have hp : 2 ^ (32 * (i + 1)) = 2 ^ (32 * i) * 4294967296 := by rw [show 32 * (i + 1) = 32 * i + 32 by omega, Nat.pow_add]
  rw [hp] at h1
  have h2 : 0 < 2 ^ (32 * i) := Nat.two_pow_pos _
  generalize 2 ^ (32 * i) = q at *
  have : q * (limb A i + limb B i + carry A B i) = q * (limb (A + B) i + 4294967296 * carry A B (i + 1)) := by
    rw [Nat.mul_add, Nat.mul_add, Nat.mul_add, ← Nat.mul_assoc q 4294967296]
    omega
  exact Nat.eq_of_mul_eq_mul_left h2 this
end Go.Am
