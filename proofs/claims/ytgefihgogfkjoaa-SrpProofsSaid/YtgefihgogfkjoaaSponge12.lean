/-
  Sponge12: the document's Parts, Of, Mac, Bytes, Stretch.
-/
import Derived.Test.YtgefihgogfkjoaaSponge11
set_option linter.unusedSimpArgs false
set_option linter.unusedVariables false
namespace Go.Proofs.Ytgefihgogfkjoaa
open Go.Am

/-- Parts that are few, and short. -/
def Short (ls : List (List Int)) : Prop := Small ls ∧ (partsI ls).length ≤ 200000000000
theorem partsI_len {ls : List (List Int)} {l : List Int} (i : Nat) (h : ls[i]? = some l) : (partsI (ls.take i)).length + 8 + l.length ≤ (partsI ls).length := by
  have e : ls = ls.take i ++ (l :: ls.drop (i + 1)) := by
    have hi := (List.getElem?_eq_some_iff.1 h).1
    have hl := (List.getElem?_eq_some_iff.1 h).2
    rw [← hl, List.getElem_cons_drop, List.take_append_drop]
  have : (partsI ls).length = (partsI (ls.take i)).length + (8 + l.length + (partsI (ls.drop (i + 1))).length) := by
    conv => lhs; rw [e]
    simp [partsI]
    omega
  omega
theorem rparts (ls : List (List Int)) (hs : Short ls) (h00 : ls ≠ []) : ASpec Try.prog 72 [roBB ls] (roB (partsI ls)) := by
  obtain ⟨⟨hn, hl⟩, ht⟩ := hs
  refine ASpec.startX [5] 1000 Try.func72 (fn := Try.f72) rfl (by decide) mixed (by kernel_rfl) (by simp) ?_
  simp (disch := omega) [ini, upd_eq]
  refine goT_downS (X := Nat × Nat × Nat) (fun x => ls.length - x.1) (fun x => stH [(0, roBB ls), (3, if x.1 = 0 then .nils else .sl x.2.1 0 1 (partsI (ls.take x.1)).length), (4, .int .i64 (x.1 : Nat))]
      ⟨fun j => if x.1 ≠ 0 ∧ j = x.2.1 then some ⟨bl (partsI (ls.take x.1)), false⟩ else none, x.2.2⟩)
    (fun x => x.1 ≤ ls.length ∧ x.2.1 ≤ x.2.2) ?_ (0, 0, 0) ⟨Nat.zero_le _, Nat.le_refl _⟩ ?_
  · rintro ⟨i, id, m⟩ ⟨hi, hid⟩ IH
    simp only at hi hid IH ⊢
    refine goT_round mixed 100 ?_
    by_cases hend : i = ls.length
    · subst hend
      rw [List.take_length] at *
      have h0 : ls.length ≠ 0 := fun h => h00 (List.eq_nil_of_length_eq_zero h)
      simp (disch := omega) [stH_eq, upd_eq, tyBB, lenA_roBB, h0, resA_L Try.results72]
      exact view_slb (f := false) (by simp [h0]) rfl
    · have hil : i < ls.length := by omega
      have hix := fun h => ixA_roBB (s := 1) (b := 24) (a := false) (z := [.nils]) (e := 22) (eb := 24) (ea := false) (h := h) ls hil
      obtain ⟨p, hp⟩ : ∃ p, ls[i] = p := ⟨_, rfl⟩
      have hpm : p ∈ ls := hp ▸ List.getElem_mem hil
      have hpl := hl p hpm
      have hg : ls[i]? = some p := by rw [List.getElem?_eq_getElem hil, hp]
      have hpt := partsI_len i hg
      have ht : ls.take (i + 1) = ls.take i ++ [p] := by rw [List.take_add_one, hg]; rfl
      obtain ⟨L, hL⟩ : ∃ L, L = partsI (ls.take i) := ⟨_, rfl⟩
      rw [← hL] at hpt ⊢
      have hcl : ∀ j b (bk' : Nat → Option Blk) (j' : Nat), bk' j' = some ⟨bl (L ++ (eightI (p.length : Nat) ++ p)), false⟩ → (if i + 1 ≠ 0 ∧ j = j' then some (⟨bl (partsI (ls.take (i + 1))), false⟩ : Blk) else none) = some b → bk' j = some b := by
        intro j b bk' j' h1 h2
        rw [ht, partsI_snoc, ← hL, List.append_assoc] at h2
        by_cases hj : j = j'
        · subst hj; simpa [h1] using h2
        · simp [hj] at h2
      have hlen : (partsI (ls.take (i + 1))).length = L.length + 8 + p.length := by rw [ht, partsI_snoc, ← hL]; simp; omega
      by_cases h0 : i = 0
      · subst h0
        have hL0 : L = [] := by rw [hL]; rfl
        subst hL0
        have hix0 : ∀ h, indexAddrA ⟨1, 24, false, [.nils], .slice 22 1 false 24⟩ h (roBB ls) (.int .i64 0) = some (.rp (ls.map roB)) := fun h => hix h
        simp (disch := omega) [stH_eq, upd_eq, tyBB, tyBytes, hil, lenA_roBB, hix0, hp, lenA_roB]
        refine goT_region2 mixed [(19, 19), (21, 21)] 100 (by kernel_rfl) ?_
        simp (disch := omega) [stH_eq, upd_eq, tyBB, tyBytes, hil, lenA_roBB, hix0, hp, lenA_roB]
        refine callT_of (reight _) rfl rfl ?_
        have ht8 : (eightI (p.length : Nat)).take 8 = eightI (p.length : Nat) := List.take_of_length_le (by simp)
        simp (disch := omega) [upd_eq, tyBB, tyBytes, appendA, appendB, srcA_roB, zOkU8, HP.move, HP.add, bl_take, bl_app, hix0, hp, ht8, hil, show 8 + p.length ≤ 70368744177664 by omega, show 8 + p.length ≤ 4611686018427387904 by omega, tyInt, in_i64]
        refine ⟨by simp [dynOk, ptrNe, upd_eq, roBB], ?_⟩
        refine IH (1, m + 1, m + 2) _ ⟨by simp only; omega, by simp only; omega⟩ (by simp only; omega) (Am.Sub.of (by simp) (by simp [upd_eq]; simpa using hlen) fun j b hb' => hcl j b _ (m + 1) (by simp [upd_eq]) hb')
      · simp (disch := omega) [stH_eq, upd_eq, tyBB, tyBytes, show (i : Int) < ls.length by omega, lenA_roBB, hix, hp, lenA_roB, h0]
        refine goT_region2 mixed [(19, 19), (21, 21)] 100 (by kernel_rfl) ?_
        simp (disch := omega) [stH_eq, upd_eq, tyBB, tyBytes, show (i : Int) < ls.length by omega, lenA_roBB, hix, hp, lenA_roB, h0]
        refine callT_of (reight _) rfl rfl ?_
        have htL : L.take L.length = L := List.take_length
        simp (disch := omega) [upd_eq, tyBB, tyBytes, appendA, appendB, srcA_roB, zOkU8, HP.move, bl_take, bl_app, hix, hp, htL, show L.length + 8 ≤ 70368744177664 by omega, show L.length + 8 ≤ 4611686018427387904 by omega, show L.length + 8 + p.length ≤ 70368744177664 by omega, show L.length + 8 + p.length ≤ 4611686018427387904 by omega, tyInt, in_i64]
        have ht9 : (L ++ eightI (p.length : Nat)).take (L.length + 8) = L ++ eightI (p.length : Nat) := List.take_of_length_le (by simp)
        refine ⟨by simp [dynOk, ptrNe, upd_eq, roBB], ?_⟩
        refine IH (i + 1, m + 1, m + 2) _ ⟨by simp only; omega, by simp only; omega⟩ (by simp only; omega) (Am.Sub.of (by simp) (by simp [upd_eq]; exact hlen) fun j b hb' => hcl j b _ (m + 1) (by simp [upd_eq, ht9]) hb')
  · exact Am.Sub.of (by simp) (by simp [upd_eq]) fun j b hb' => by simp at hb'
end Go.Proofs.Ytgefihgogfkjoaa
