/-
  Srp2: numbers, one behind the other.
-/
import Derived.Test.YtgefihgogfkjoaaSrp1
import Derived.Test.YtgefihgogfkjoaaAmE
set_option linter.unusedSimpArgs false
set_option linter.unusedVariables false
namespace Go.Proofs.Ytgefihgogfkjoaa
open Go.Am

/-- a number's bytes -/
noncomputable def numB (N : Nat) : List Int := (List.range 32).map fun i => (byteN N (31 - i) : Nat)
theorem bytes_bl (N : Nat) : bytesL N = bl (numB N) := by
  unfold bytesL numB bl famL
  rw [List.map_map]
  rfl
@[simp] theorem numB_length (N : Nat) : (numB N).length = 32 := by simp [numB]
theorem isB_numB (N : Nat) : IsB (numB N) := by
  intro b hb
  simp only [numB, List.mem_map] at hb
  obtain ⟨i, _, rfl⟩ := hb
  have := byteN_lt N (31 - i)
  omega
theorem bytesB (N : Nat) : ASpec Try.prog 81 [num N] (roB (numB N)) := by
  have := bytes N
  rw [bytes_bl] at this
  unfold roB
  rw [numB_length]
  exact this
theorem rbytesB (N : Nat) : ASpec Try.prog 34 [num N] (roB (numB N)) := by
  have := rbytes N
  rw [bytes_bl] at this
  unfold roB
  rw [numB_length]
  exact this
/-- two numbers, one behind the other -/
noncomputable def duoL (A B : Nat) : List AV := numL A ++ numL B
@[simp] theorem duoL_length (A B : Nat) : (duoL A B).length = 16 := by simp [duoL]
@[simp] theorem noRefs_duoL (A B : Nat) : noRefs (duoL A B) = true := by simp [duoL, noRefs_append]
theorem duo_0 (A B : Nat) : segA (duoL A B) 0 8 = some (num A) := by
  simp [segA, duoL, num, List.take_append_of_le_length, List.take_of_length_le]
theorem duo_1 (A B : Nat) : segA (duoL A B) 8 8 = some (num B) := by
  simp [segA, duoL, num, List.drop_append_of_le_length, List.take_of_length_le]
@[simp] theorem cellsA_ro {n : Nat} {cs : List AV} : cellsA (.ro n cs) = some [.ro n cs] := (rfl)
theorem numbers_ (A B : Nat) : ASpec Try.prog 80 [.ro 2 (duoL A B)] (.fn (.func 102) [] [.rp [.ro 2 (duoL A B)]]) := by
  refine ASpec.start 1000 Try.func80 (fn := Try.f80) rfl (by decide) mixed (by kernel_rfl) (by simp) ?_
  simp (disch := omega) [ini, upd_eq, resA_L Try.results80]
  simp [view, view1, noRef, noRefs, Am.dv, upd_eq]
theorem tyNums : tyI Try.prog 61 = some ⟨1, 24, false, [.nils], .slice 27 8 true 32⟩ := by kernel_rfl
/-- The function that hands out both: two rounds. -/
theorem numbers1 (A B : Nat) (L : LoopI) {h : HP} {Q1 Q2 : HP → Prop} (h1 : ∀ h1, h.nt ≤ h1.nt → (∀ i, i < h.nt → h1.bk i = h.bk i) → YSpec Try.prog L [roB (numB A)] h1 Q1)
    (h2 : ∀ hx h1, h.nt ≤ hx.nt → Q1 hx → hx.nt ≤ h1.nt → (∀ i, i < hx.nt → h1.bk i = hx.bk i) → YSpec Try.prog L [roB (numB B)] h1 Q2) : PSpecL Try.prog (some L) 102 [.fn (.yield L.l) [] [], .rp [.ro 2 (duoL A B)]] h (fun _ h' => Q2 h') := by
  obtain ⟨bk, nt⟩ := h
  refine PSpecL.start (some L) [] 1000 Try.func102 (fn := Try.f102) rfl (by decide) mixed (by kernel_rfl) (by simp) ?_
  have nd : duoL A B ≠ [] := fun h => by have := duoL_length A B; rw [h] at this; cases this
  have s0 := duo_0 A B
  have s1 : segA ((duoL A B).drop 8) 0 8 = some (num B) := by
    have := duo_1 A B
    simp only [segA] at this ⊢
    simpa [List.drop_drop] using this
  simp (disch := omega) [ini, upd_eq, tyNums, tyInt, lenA, show ([AV.ro 2 (duoL A B)] : List AV)[0]? = some (.ro 2 (duoL A B)) from rfl]
  refine goT_round mixed 100 ?_
  simp (disch := omega) [upd_eq, tyNums, tyNum, tyInt, nd, s0]
  refine callT_of (bytesB A) rfl rfl ?_
  simp (disch := omega) [upd_eq]
  refine callT_yield (h1 _ (by simp) (fun i hi => by simp only [upd_eq]; rw [if_neg (by simp only at hi; omega), if_neg (by simp only at hi; omega)])) ?_
  rintro ⟨bk1, nt1⟩ hn1 hq1
  simp (disch := omega) [upd_eq, in_i64]
  refine goT_round mixed 100 ?_
  simp (disch := omega) [upd_eq, tyNums, tyNum, tyInt, nd, s1]
  refine callT_of (bytesB B) rfl rfl ?_
  simp (disch := omega) [upd_eq]
  refine callT_yield (h2 _ _ (by simp only at hn1 ⊢; omega) hq1 (by simp) (fun i hi => by simp only [upd_eq]; rw [if_neg (by simp only at hi; omega), if_neg (by simp only at hi; omega)])) ?_
  rintro ⟨bk2, nt2⟩ hn2 hq2
  simp (disch := omega) [upd_eq, in_i64]
  refine goT_round mixed 100 ?_
  simp (disch := omega) [upd_eq]
  refine resF_own (a := .tup []) (h' := ⟨bk2, nt2⟩) hq2 (resRaw_nil Try.results102) (Nat.le_refl _) fun id b hb => hb
end Go.Proofs.Ytgefihgogfkjoaa
