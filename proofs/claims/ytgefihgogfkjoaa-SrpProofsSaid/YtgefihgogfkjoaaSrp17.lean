/-
  Srp17: why both sides have one key.
-/
import Derived.Test.YtgefihgogfkjoaaSrp16
set_option linter.unusedSimpArgs false
set_option linter.unusedVariables false
namespace Go.Proofs.Ytgefihgogfkjoaa
open Go.Am

theorem pow_modP (a e P : Nat) : (a % P) ^ e % P = a ^ e % P := (Nat.pow_mod a e P).symm
/-- what the group has: its powers go round in Q. -/
theorem pow_round {P Q g : Nat} (h : g ^ Q % P = 1) (m : Nat) : g ^ (m % Q) % P = g ^ m % P := by
  have h1P : 1 % P = 1 := by
    rw [← h, Nat.mod_mod]
  conv => rhs; rw [← Nat.div_add_mod m Q, Nat.pow_add, Nat.pow_mul, Nat.mul_mod, Nat.pow_mod, h, Nat.one_pow, h1P, Nat.one_mul, Nat.mod_mod]
/-- no power below Q is 1 -/
theorem pow_ne {P Q g : Nat} (hQ : PrimeN Q) (hg : HasP P Q g) : ∀ e, 0 < e → e < Q → g ^ e % P ≠ 1 := by
  intro e
  induction e using Nat.strongRecOn with
  | _ e ih =>
    intro h0 hlt he
    obtain ⟨h1, h2, h3⟩ := hg
    have h1P : 1 % P = 1 := Nat.mod_eq_of_lt (by omega)
    by_cases e1 : e = 1
    · subst e1
      rw [Nat.pow_one, Nat.mod_eq_of_lt h2] at he
      omega
    · have hr := Nat.mod_lt Q h0
      have hne : Q % e ≠ 0 := by
        intro hz
        have h5 := hQ.2 e h0 hlt
        rw [Nat.gcd_eq_right (Nat.dvd_of_mod_eq_zero hz)] at h5
        exact e1 h5
      refine ih (Q % e) hr (by omega) (by omega) ?_
      have h4 : g ^ Q % P = g ^ (Q % e) % P := by
        conv => lhs; rw [← Nat.div_add_mod Q e, Nat.pow_add, Nat.pow_mul, Nat.mul_mod, Nat.pow_mod, he, Nat.one_pow, h1P, Nat.one_mul, Nat.mod_mod]
      rw [← h4]; exact h3
theorem has_pow {P Q g : Nat} (hQ : PrimeN Q) (hg : HasP P Q g) {e : Nat} (h0 : 0 < e) (hlt : e < Q) : HasP P Q (g ^ e % P) := by
  have hne := pow_ne hQ hg e h0 hlt
  obtain ⟨h1, h2, h3⟩ := hg
  have h1P : 1 % P = 1 := Nat.mod_eq_of_lt (by omega)
  have hl := Nat.mod_lt (g ^ e) (show P > 0 by omega)
  have hp : (g ^ e % P) ^ Q % P = 1 := by
    rw [pow_modP, ← Nat.pow_mul, Nat.mul_comm, Nat.pow_mul, Nat.pow_mod, h3, Nat.one_pow, h1P]
  have hz : g ^ e % P ≠ 0 := by
    intro hz
    rw [hz] at hp
    have : (0 : Nat) ^ Q = 0 := Nat.zero_pow (by omega)
    rw [this] at hp
    simp at hp
  exact ⟨by omega, hl, hp⟩

/-- The client's base is what the server has raised. -/
theorem prov_base {P Q G x own : Nat} (hP : 0 < P) : provB P Q G x (offB P Q G (G ^ x % P) own) = G ^ own % P := by
  unfold provB offB
  have h1 := Nat.mod_lt (exW Q [[107]] * (G ^ x % P)) hP
  have h2 := Nat.mod_lt (G ^ own) hP
  generalize exW Q [[107]] * (G ^ x % P) % P = M at *
  generalize G ^ own % P = N at *
  by_cases h : M + N < P
  · rw [Nat.mod_eq_of_lt h, show M + N + P - M = N + P by omega, Nat.add_mod_right, Nat.mod_eq_of_lt h2]
  · have e : (M + N) % P = M + N - P := by
      rw [Nat.mod_eq_sub_mod (by omega), Nat.mod_eq_of_lt (by omega)]
    rw [e, show M + N - P + P - M = N by omega, Nat.mod_eq_of_lt h2]
/-- Both have one secret. -/
theorem one_secret {P Q G x own a b : Nat} (hG : G ^ Q % P = 1) : (G ^ own % P) ^ provE Q (G ^ a % P) b a x % P = ((G ^ a % P) * ((G ^ x % P) ^ uI Q (G ^ a % P) b % P) % P) ^ own % P := by
  unfold provE
  generalize uI Q (G ^ a % P) b = U
  have hr : (G ^ own) ^ Q % P = 1 := by
    rw [← Nat.pow_mul, Nat.mul_comm, Nat.pow_mul, Nat.pow_mod, hG, Nat.one_pow]
    rw [← hG, Nat.mod_mod]
  rw [pow_modP, pow_round hr]
  have hl : (G ^ own) ^ (U * x % Q + a) % P = (G ^ own) ^ (U * x + a) % P := by
    rw [Nat.pow_add, Nat.mul_mod, pow_round hr, ← Nat.mul_mod, ← Nat.pow_add]
  rw [hl, pow_modP, pow_modP]
  have hi : G ^ a % P * ((G ^ x) ^ U % P) % P = G ^ (a + x * U) % P := by
    rw [← Nat.mul_mod, ← Nat.pow_mul, ← Nat.pow_add]
  rw [Nat.pow_mod (G ^ a % P * ((G ^ x) ^ U % P)), hi, pow_modP, ← Nat.pow_mul, ← Nat.pow_mul]
  congr 2
  rw [Nat.mul_comm own, Nat.add_comm, Nat.mul_comm x U]
/-- The honest run. -/
theorem honest {gB : Int} {P Q G : Nat} (hP : 0 < P) (hG : G ^ Q % P = 1) (name : ByteArray) (pass salt p : List Int) (own : Nat) :
    let c := helloS gB P Q G name pass p
    let V := G ^ xI Q (strB name) pass salt % P
    let s := offS gB P Q G name salt V c.a own
    let d := provS c pass salt (offB P Q G V own)
    d.key = s.key ∧ d.proof = s.proof := by
  intro c V s d
  have hk : d.key = s.key := by
    show keyI _ = keyI _
    congr 1
    show (provB P Q G (xI Q (strB name) pass salt) (offB P Q G V own)) ^ provE Q c.a (offB P Q G V own) c.own (xI Q (strB name) pass salt) % P = offK P Q G V c.a own
    rw [prov_base hP]
    exact one_secret hG
  refine ⟨hk, ?_⟩
  have h1 : d.proof = proofI d.key (strB name) salt c.a (offB P Q G V own) := rfl
  have h2 : s.proof = proofI s.key (strB name) salt c.a (offB P Q G V own) := rfl
  rw [h1, h2, hk]
end Go.Proofs.Ytgefihgogfkjoaa
