/-
  Sponge9: Same.
-/
import Derived.Test.YtgefihgogfkjoaaSponge8
set_option linter.unusedSimpArgs false
set_option linter.unusedVariables false
namespace Go.Proofs.Ytgefihgogfkjoaa
open Go.Am

def IsB (l : List Int) : Prop := ∀ b ∈ l, 0 ≤ b ∧ b < 256
theorem IsB.gI {l : List Int} (h : IsB l) (i : Nat) : 0 ≤ gI l i ∧ gI l i < 256 := by
  unfold Proofs.Ytgefihgogfkjoaa.gI
  rw [List.getD_eq_getElem?_getD]
  cases hi : l[i]? with
  | none => simp
  | some b => exact h b (List.mem_of_getElem? hi)
theorem IsB.append {l m : List Int} (h : IsB l) (k : IsB m) : IsB (l ++ m) := fun b hb => (List.mem_append.1 hb).elim (h b) (k b)
theorem IsB.take {l : List Int} (h : IsB l) (k : Nat) : IsB (l.take k) := fun b hb => h b (List.mem_of_mem_take hb)
theorem wrap8_range (x : Int) : 0 ≤ IntKind.u8.wrap x ∧ IntKind.u8.wrap x < 256 := by rw [w_u8]; omega
theorem isB_sumB (h : Nat → Int) : IsB (sumB h) := by
  intro b hb
  simp only [sumB, List.mem_map] at hb
  obtain ⟨i, _, rfl⟩ := hb
  exact wrap8_range _
theorem isB_mac (key : List Int) (ls : List (List Int)) : IsB (macI key ls) := isB_sumB _
theorem or8 {x y : Int} (hx : 0 ≤ x ∧ x < 256) (hy : 0 ≤ y ∧ y < 256) : (0 ≤ bitsA .or .u8 x y ∧ bitsA .or .u8 x y < 256) ∧ (bitsA .or .u8 x y = 0 ↔ x = 0 ∧ y = 0) := by
  obtain ⟨m, rfl⟩ := Int.eq_ofNat_of_zero_le hx.1
  obtain ⟨n, rfl⟩ := Int.eq_ofNat_of_zero_le hy.1
  rw [bor8 (by omega) (by omega)]
  have h1 : m ||| n < 256 := Nat.or_lt_two_pow (n := 8) (by omega) (by omega)
  refine ⟨by omega, ?_⟩
  have h2 : m ||| n = 0 ↔ m = 0 ∧ n = 0 := by
    constructor
    · intro h
      have a1 := Nat.left_le_or (n := m) (m := n)
      have a2 := Nat.right_le_or (n := m) (m := n)
      omega
    · rintro ⟨rfl, rfl⟩; rfl
  omega
theorem xor8 {x y : Int} (hx : 0 ≤ x ∧ x < 256) (hy : 0 ≤ y ∧ y < 256) : (0 ≤ bitsA .xor .u8 x y ∧ bitsA .xor .u8 x y < 256) ∧ (bitsA .xor .u8 x y = 0 ↔ x = y) := by
  obtain ⟨m, rfl⟩ := Int.eq_ofNat_of_zero_le hx.1
  obtain ⟨n, rfl⟩ := Int.eq_ofNat_of_zero_le hy.1
  rw [bxor8 (by omega) (by omega)]
  have h1 : m ^^^ n < 256 := Nat.xor_lt_two_pow (n := 8) (by omega) (by omega)
  refine ⟨by omega, ?_⟩
  have h2 : m ^^^ n = 0 ↔ m = n := by
    constructor
    · intro h
      have := xor_xor m n
      rw [h, Nat.xor_zero] at this
      exact this.symm
    · rintro rfl; exact Nat.xor_self m
  omega
def orK (a b : List Int) : Nat → Int
  | 0 => 0
  | i + 1 => bitsA .or .u8 (orK a b i) (bitsA .xor .u8 (gI a i) (gI b i))
theorem orK_spec {a b : List Int} (ha : IsB a) (hb : IsB b) : ∀ n, (0 ≤ orK a b n ∧ orK a b n < 256) ∧ (orK a b n = 0 ↔ ∀ i, i < n → gI a i = gI b i)
  | 0 => ⟨by simp [orK], by simp [orK]⟩
  | n + 1 => by
    obtain ⟨h1, h2⟩ := orK_spec ha hb n
    obtain ⟨h3, h4⟩ := xor8 (ha.gI n) (hb.gI n)
    obtain ⟨h5, h6⟩ := or8 h1 h3
    refine ⟨h5, ?_⟩
    rw [orK, h6, h2, h4]
    constructor
    · rintro ⟨p, q⟩ i hi
      by_cases h : i = n
      · subst h; exact q
      · exact p i (by omega)
    · intro p
      exact ⟨fun i hi => p i (by omega), p n (by omega)⟩
theorem gI_ext {a b : List Int} (hl : a.length = b.length) : a = b ↔ ∀ i, i < a.length → gI a i = gI b i := by
  constructor
  · rintro rfl i _; rfl
  · intro h
    apply List.ext_getElem hl
    intro i h1 h2
    have := h i h1
    simpa [gI, h1, h2] using this
theorem same (a b : List Int) (ha : IsB a) (hb : IsB b) (la : a.length ≤ 400000000000) : ASpec Try.prog 61 [roB a, roB b] (.bool (decide (a = b))) := by
  refine ASpec.start 1000 Try.func61 (fn := Try.f61) rfl (by decide) mixed (by kernel_rfl) (by simp) ?_
  by_cases hl : a.length = b.length
  case neg =>
    have hne : (((a.length : Nat) : Int) != ((b.length : Nat) : Int)) = true := by simp; omega
    have hne2 : a ≠ b := fun h => hl (by rw [h])
    simp (disch := omega) [ini, upd_eq, tyBytes, lenA_roB, hne, hne2, hl, resA_L Try.results61, view, view1, noRef]
  have heq : (((a.length : Nat) : Int) != ((b.length : Nat) : Int)) = false := by simp; omega
  simp (disch := omega) [ini, upd_eq, tyBytes, lenA_roB, heq, hl]
  refine goT_downS (X := Nat) (fun i => b.length - i) (fun i => stH [(0, roB a), (1, roB b), (5, .int .u8 (orK a b i)), (13, .int .i64 (b.length : Nat)), (14, .int .i64 (i : Nat))] ⟨noBk, 0⟩) (fun i => i ≤ b.length) ?_ 0 (by omega) ?_
  · intro i hi IH
    refine goT_round mixed 100 ?_
    by_cases hend : i = b.length
    · subst hend
      have hr : decide (orK a b b.length = 0) = decide (a = b) := by
        have := (orK_spec ha hb b.length).2
        have h2 := gI_ext hl
        rw [hl] at h2
        simp only [this, h2]
      have hr2 : (orK a b b.length == 0) = decide (a = b) := by rw [← hr]; rfl
      simp (disch := omega) [stH_eq, upd_eq, hr2, resA_L Try.results61, view, view1, noRef]
    · have hib : i < b.length := by omega
      have hia : i < a.length := by omega
      have na : bl a ≠ [] := bl_ne (by omega)
      have nb : bl b ≠ [] := bl_ne (by omega)
      have ga : (bl a)[i]? = some (.int .u8 (gI a i)) := bl_get hia
      have gb : (bl b)[i]? = some (.int .u8 (gI b i)) := bl_get hib
      simp (disch := omega) [stH_eq, upd_eq, tyBytes, tyU8, tyInt, show (i : Int) < b.length by omega, show (i : Int) < a.length by omega, roB, na, nb, ga, gb, in_i64]
      refine IH (i + 1) _ (by omega) (by omega) (Am.Sub.of (by simp) ?_ fun j b hb' => hb')
      simp [upd_eq, roB, orK]
  · exact Am.Sub.of (by simp) (by simp [upd_eq, orK]) fun j b hb' => hb'
end Go.Proofs.Ytgefihgogfkjoaa
