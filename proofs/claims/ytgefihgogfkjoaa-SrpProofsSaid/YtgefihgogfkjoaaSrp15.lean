/-
  Srp15: the chapter's small functions.
-/
import Derived.Test.YtgefihgogfkjoaaSrp14
set_option linter.unusedSimpArgs false
set_option linter.unusedVariables false
namespace Go.Proofs.Ytgefihgogfkjoaa
open Go.Am

theorem within7 (x y : Int) (hy : 0 < y) (hy2 : y < 9223372036854775808) : ASpec Try.prog 24 [.int .i64 x, .int .i64 y] (.int .i64 (x % y)) := by
  refine ASpec.start 1000 Try.func24 (fn := Try.f24) rfl (by decide) mixed (by kernel_rfl) (by simp) ?_
  have h := tmod_within (x := x) hy
  have h1 := Int.emod_nonneg x (show y ≠ 0 by omega)
  have h2 := Int.emod_lt_of_pos x hy
  by_cases hc : x.tmod y < 0
  · rw [if_pos hc] at h
    simp (disch := omega) [ini, upd_eq, binA_remZ, hc, h, in_i64, resA_L Try.results24]
  · rw [if_neg hc] at h
    simp (disch := omega) [ini, upd_eq, binA_remZ, show ¬ x % y < 0 by omega, h, resA_L Try.results24]
theorem within7N (x : Int) (y : Nat) (hy : 0 < y) (hy2 : y < 9223372036854775808) : ∃ k : Nat, k < y ∧ x % (y : Int) = k ∧ ASpec Try.prog 24 [.int .i64 x, .int .i64 (y : Nat)] (.int .i64 (k : Nat)) := by
  have h1 := Int.emod_nonneg x (show (y : Int) ≠ 0 by omega)
  have h2 := Int.emod_lt_of_pos x (show (0 : Int) < y by omega)
  refine ⟨(x % (y : Int)).toNat, by omega, by omega, ?_⟩
  have := within7 x y (by omega) (by omega)
  rwa [show ((x % (y : Int)).toNat : Int) = x % (y : Int) by omega]
@[simp] theorem cellc (c : AV) (cs : List AV) : (c :: cs)[0]? = some c := (rfl)
theorem short (ls : List (List Int)) (hls : ls.length ≤ 1000000) : ASpec Try.prog 12 [roBB ls] (.bool (decide (∀ l ∈ ls, l.length ≤ 64))) := by
  refine ASpec.start 1000 Try.func12 (fn := Try.f12) rfl (by decide) mixed (by kernel_rfl) (by simp) ?_
  simp (disch := omega) [ini, upd_eq]
  refine goT_downS (X := Nat) (fun i => ls.length - i) (fun i => stH [(0, roBB ls), (3, .int .i64 (i : Nat))] ⟨noBk, 0⟩) (fun i => i ≤ ls.length ∧ ∀ j, j < i → ∀ l, ls[j]? = some l → l.length ≤ 64) ?_ 0 ⟨Nat.zero_le _, fun j hj => absurd hj (by omega)⟩ ?_
  · rintro i ⟨hi, hall⟩ IH
    refine goT_round mixed 100 ?_
    by_cases hend : i = ls.length
    · have hd : decide (∀ l ∈ ls, l.length ≤ 64) = true := by
        simp only [decide_eq_true_eq]
        intro l hl
        obtain ⟨j, hj⟩ := List.mem_iff_getElem?.1 hl
        have := (List.getElem?_eq_some_iff.1 hj).1
        exact hall j (by omega) l hj
      rw [hd]
      simp (disch := omega) [stH_eq, upd_eq, tyBB, lenA_roBB, hend, resA_L Try.results12]
    · have hil : i < ls.length := by omega
      obtain ⟨l, hl⟩ : ∃ l, ls[i]? = some l := ⟨ls[i], List.getElem?_eq_getElem hil⟩
      have hd0 : (ls.drop i).map roB = roB l :: (ls.drop (i + 1)).map roB := by
        rw [List.drop_eq_getElem_cons hil]
        have : ls[i] = l := by
          rw [List.getElem?_eq_getElem hil] at hl
          exact Option.some.inj hl
        rw [this]; rfl
      by_cases hlen : l.length ≤ 64
      · simp (disch := omega) [stH_eq, upd_eq, tyBB, tyBytes, lenA_roBB, ixA_roBB, lenA_roB, hd0, show (i : Int) < ls.length by omega, show ¬ (64 : Int) < (l.length : Int) by omega, in_i64]
        refine IH (i + 1) _ ⟨by omega, ?_⟩ (by omega) (Am.Sub.of (by simp) (by simp [upd_eq]) fun j b hb' => hb')
        intro j hj m hm
        by_cases hji : j = i
        · subst hji; rw [hl] at hm; cases hm; exact hlen
        · exact hall j (by omega) m hm
      · have hd : decide (∀ l ∈ ls, l.length ≤ 64) = false := by
          simp only [decide_eq_false_iff_not]
          intro h
          exact hlen (h l (List.mem_of_getElem? hl))
        rw [hd]
        simp (disch := omega) [stH_eq, upd_eq, tyBB, tyBytes, lenA_roBB, ixA_roBB, lenA_roB, hd0, show (i : Int) < ls.length by omega, show (64 : Int) < (l.length : Int) by omega, resA_L Try.results12]
  · exact Am.Sub.of (by simp) (by simp [upd_eq]) fun j b hb' => hb'
end Go.Proofs.Ytgefihgogfkjoaa
