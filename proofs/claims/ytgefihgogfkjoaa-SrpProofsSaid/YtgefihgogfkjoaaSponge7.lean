/-
  Sponge7: put, Of, Mac: functions of bytes.
-/
import Derived.Test.YtgefihgogfkjoaaSponge6
set_option linter.unusedSimpArgs false
set_option linter.unusedVariables false
namespace Go.Proofs.Ytgefihgogfkjoaa
open Go.Am

/-- Parts. -/
def roBB (ls : List (List Int)) : AV := .ro ls.length (ls.map roB)
@[simp] theorem noRef_roBB (ls : List (List Int)) : noRef (roBB ls) = true := rfl
def partsI (ls : List (List Int)) : List Int := (ls.map fun l => eightI (l.length : Nat) ++ l).flatten
theorem partsI_snoc (ls : List (List Int)) (l : List Int) : partsI (ls ++ [l]) = partsI ls ++ eightI (l.length : Nat) ++ l := by simp [partsI]
def rawI (key L : List Int) : List Int := sumB (finF (absorb (newF key) (padI (L ++ [128]))))
@[simp] theorem rawI_length (key L : List Int) : (rawI key L).length = 16 := by simp [rawI]
def macI (key : List Int) (ls : List (List Int)) : List Int := rawI key (partsI ls)
@[simp] theorem macI_length (key : List Int) (ls : List (List Int)) : (macI key ls).length = 16 := by simp [macI]
theorem sumS_rest (f : Nat → Int) (L : List Int) : sumS (absorb f L) (restI L) = sumB (finF (absorb f (padI (L ++ [128])))) := by
  have h : zpad (restI L ++ [128]).length = zpad (L ++ [128]).length := by
    unfold zpad
    rw [List.length_append, List.length_append, restI_len]
    simp only [List.length_cons, List.length_nil]
    rw [show (L.length % 16 + (0 + 1)) % 16 = (L.length + (0 + 1)) % 16 by omega]
  unfold sumS padI
  rw [h, List.append_assoc, ← absorb_app, ← List.append_assoc]
def Small (ls : List (List Int)) : Prop := ls.length ≤ 1000000 ∧ ∀ l ∈ ls, l.length ≤ 400000000000
theorem lenA_roBB {s b e es eb : Nat} {a ea : Bool} {z : List AV} {h : HP} (ls : List (List Int)) : lenA ⟨s, b, a, z, .slice e es ea eb⟩ h (roBB ls) = some ls.length := rfl
theorem ixA_roBB {s b e eb : Nat} {a ea : Bool} {z : List AV} {h : HP} (ls : List (List Int)) {i : Nat} (hi : i < ls.length) : indexAddrA ⟨s, b, a, z, .slice e 1 ea eb⟩ h (roBB ls) (.int .i64 (i : Nat)) = some (.rp ((ls.drop i).map roB)) := by
  have hne : ls.map roB ≠ [] := fun h => by have := congrArg List.length h; simp at this; subst this; simp at hi
  have h1 : (i : Int) < ls.length := by omega
  simp only [roBB, ixA_ro, if_neg hne, idx_int]
  simp [h1, List.map_drop]

theorem put (f : Nat → Int) (ls : List (List Int)) (hls : Small ls) {bk : Nat → Option Blk} {nt id : Nat} {fx : Bool} (hid : id < nt) (hb : bk id = some ⟨spL f [], fx⟩) :
    PSpec Try.prog 100 [.ptr id 0, roBB ls] ⟨bk, nt⟩ (fun r h' => r = smA (sumB (finF (absorb f (padI (partsI ls ++ [128]))))) ∧ ∀ i, i < nt → i ≠ id → h'.bk i = bk i) := by
  obtain ⟨hn, hl⟩ := hls
  refine PSpec.start [] 1000 Try.func100 (fn := Try.f100) rfl (by decide) mixed (by kernel_rfl) (by simp) ?_
  simp (disch := omega) [upd_eq, tySum, tyBB, lenA_roBB]
  refine goT_downS (X := Nat × Nat) (fun x => ls.length - x.1) (fun x => stH [(0, .ptr id 0), (4, .ptr nt 0), (7, roBB ls), (8, .int .i64 (ls.length : Nat)), (9, .int .i64 (x.1 : Nat))]
      ⟨fun j => if j = id then some ⟨spL (absorb f (partsI (ls.take x.1))) (restI (partsI (ls.take x.1))), fx⟩ else if j = nt then some ⟨bl z16, true⟩ else if j < nt then bk j else none, x.2⟩)
    (fun x => x.1 ≤ ls.length ∧ nt + 1 ≤ x.2) ?_ (0, nt + 1) ⟨Nat.zero_le _, Nat.le_refl _⟩ ?_
  · rintro ⟨i, n⟩ ⟨hi, hn1⟩ IH
    simp only at hi hn1 IH ⊢
    have ne : nt ≠ id := by omega
    refine goT_round mixed 100 ?_
    by_cases hend : i = ls.length
    · subst hend
      rw [List.take_length] at *
      simp (disch := omega) [stH_eq, upd_eq]
      have hb2 : (fun j => if j = id then some ⟨spL (absorb f (partsI ls)) (restI (partsI ls)), fx⟩ else if j = nt then some ⟨bl z16, true⟩ else if j < nt then bk j else none : Nat → Option Blk) id = some ⟨spL (absorb f (partsI ls)) (restI (partsI ls)), fx⟩ := by simp
      refine callT_own (first := []) (caps := []) (sum _ _ (id := id) (fx := fx) (by omega) (restI_length _) hb2) ?_
      rintro r ⟨bk2, nt2⟩ hn2 ⟨rfl, h2⟩
      simp only at hn2 h2
      rw [sumS_rest]
      obtain ⟨R, hR, hRl⟩ : ∃ R, R = sumB (finF (absorb f (padI (partsI ls ++ [128])))) ∧ R.length = 16 := ⟨_, rfl, by simp⟩
      rw [← hR]
      have sg : segA (bl R) 0 16 = some (smA R) := segA_bl hRl
      have ps : putSeg (bl z16) 0 (bl R) = some (bl R) := putSeg_bl (by simp [hRl])
      have hz : bk2 nt = some ⟨bl z16, true⟩ := by rw [h2 nt (by omega)]; simp [ne]
      simp (disch := omega) [upd_eq, tySum, hz, store_smA hRl, ps, sg]
      refine resF_own (a := smA R) (h' := ⟨fun j => if j < nt then bk2 j else none, nt2⟩) ⟨rfl, fun i hi hne => ?_⟩ ?_ (Nat.le_refl _) ?_
      · show (if i < nt then bk2 i else none) = bk i
        rw [if_pos hi, h2 i (by omega)]
        simp [hi, hne]
        omega
      · rw [resRaw_cell Try.results100]
        simp (disch := omega) [upd_eq, tySum, sg]
      · intro j b hb'
        simp only [upd_eq] at hb' ⊢
        by_cases hj : j < nt
        · simp only [hj, if_true] at hb'
          simp [hb', show j ≠ nt by omega]
        · simp [hj] at hb'
    · have hil : i < ls.length := by omega
      have hix := fun h => ixA_roBB (s := 1) (b := 24) (a := false) (z := [.nils]) (e := 22) (eb := 24) (ea := false) (h := h) ls hil
      obtain ⟨p, hp⟩ : ∃ p, ls[i] = p := ⟨_, rfl⟩
      have hpm : p ∈ ls := hp ▸ List.getElem_mem hil
      have hpl := hl p hpm
      have ht : ls.take (i + 1) = ls.take i ++ [p] := by rw [List.take_add_one, List.getElem?_eq_getElem hil, hp]; rfl
      obtain ⟨L, hL⟩ : ∃ L, L = partsI (ls.take i) := ⟨_, rfl⟩
      rw [← hL]
      simp (disch := omega) [stH_eq, upd_eq, tyBB, tyBytes, show (i : Int) < ls.length by omega, hix, hp, lenA_roB]
      refine callT_of (number _) rfl rfl ?_
      simp (disch := omega) [upd_eq]
      refine callT_own (first := []) (caps := []) (write (absorb f L) (restI L) (eightI p.length) (roB (eightI p.length)) (id := id) (fx := fx) (by omega) (restI_length _) (by simp) (by simp) Src.ro) ?_
      rintro _ ⟨bk2, nt2⟩ hn2 ⟨h1, h2⟩
      simp only at hn2 h1 h2
      rw [← absorb_app, ← restI_app] at h1
      simp (disch := omega) [upd_eq]
      refine callT_own (first := []) (caps := []) (write _ _ p (roB p) (id := id) (fx := fx) (by omega) (restI_length _) (by omega) h1 Src.ro) ?_
      rintro _ ⟨bk3, nt3⟩ hn3 ⟨h3, h4⟩
      simp only at hn3 h3 h4
      rw [← absorb_app, ← restI_app, hL, ← partsI_snoc, ← ht] at h3
      simp (disch := omega) [upd_eq, tyInt, in_i64]
      refine IH (i + 1, nt3) _ ⟨by simp only; omega, by simp only; omega⟩ (by simp only; omega) (Am.Sub.of (by simp) (by simp [upd_eq]) fun j b hb' => ?_)
      simp only at hb' ⊢
      by_cases hj : j = id
      · subst hj; simpa [h3] using hb'
      · by_cases hj2 : j = nt
        · subst hj2
          have : bk3 j = some ⟨bl z16, true⟩ := by rw [h4 j (by omega) hj, h2 j (by omega) hj]; simp [hj]
          simpa [hj, this] using hb'
        · by_cases hj3 : j < nt
          · have : bk3 j = bk j := by rw [h4 j (by omega) hj, h2 j (by omega) hj]; simp [hj, hj2, hj3]
            simpa [hj, hj2, hj3, this] using hb'
          · simp [hj, hj2, hj3] at hb'
  · refine Am.Sub.of (by simp) (by simp [upd_eq]) fun j b hb' => ?_
    simp only at hb' ⊢
    have e0 : absorb f (partsI []) = f := rfl
    have e1 : restI (partsI []) = [] := rfl
    simp only [List.take_zero, e0, e1] at hb'
    by_cases hj : j = id
    · subst hj; simpa [upd_eq, hb, show j ≠ nt by omega] using hb'
    · by_cases hj2 : j = nt
      · subst hj2; simpa [upd_eq, hj] using hb'
      · by_cases hj3 : j < nt
        · simpa [upd_eq, hj, hj2, hj3] using hb'
        · simp [hj, hj2, hj3] at hb'
/-- A key as a program may have it. -/
def KeyA (k : AV) (key : List Int) : Prop := k = roB key ∨ (k = .nils ∧ key = [])
theorem of_ (ls : List (List Int)) (hls : Small ls) : ASpec Try.prog 76 [roBB ls] (smA (macI [] ls)) := by
  refine ASpec.start 1000 Try.func76 (fn := Try.f76) rfl (by decide) mixed (by kernel_rfl) (by simp) ?_
  simp (disch := omega) [ini, upd_eq, tySum]
  refine callT_own (first := []) (caps := []) (new .nils [] (.inr ⟨rfl, rfl⟩) (by decide)) ?_
  rintro _ ⟨bk2, nt2⟩ hn2 ⟨id, h1, h2, rfl, h3, h4⟩
  simp only at hn2 h1 h2 h3 h4
  simp (disch := omega) [upd_eq]
  refine callT_own (first := []) (caps := []) (put (newF []) ls hls (id := id) (fx := true) h2 h3) ?_
  rintro r ⟨bk3, nt3⟩ hn3 ⟨rfl, h6⟩
  simp only at hn3 h6
  have hr : sumB (finF (absorb (newF []) (padI (partsI ls ++ [128])))) = macI [] ls := rfl
  have hz : bk3 0 = some ⟨bl z16, true⟩ := by rw [h6 0 (by omega) (by omega), h4 0 (by omega)]; simp [upd_eq]
  rw [hr]
  simp (disch := omega) [upd_eq, tySum, hz, store_smA (l := macI [] ls) (by simp), putSeg_bl (l := z16) (m := macI [] ls) (by simp), segA_bl (l := macI [] ls) (by simp), resA_L Try.results76]
theorem mac (key : List Int) (ls : List (List Int)) (hk : key.length ≤ 400000000000) (hls : Small ls) : ASpec Try.prog 82 [roB key, roBB ls] (smA (macI key ls)) := by
  refine ASpec.start 1000 Try.func82 (fn := Try.f82) rfl (by decide) mixed (by kernel_rfl) (by simp) ?_
  simp (disch := omega) [ini, upd_eq, tySum]
  refine callT_own (first := []) (caps := []) (new (roB key) key (.inl rfl) hk) ?_
  rintro _ ⟨bk2, nt2⟩ hn2 ⟨id, h1, h2, rfl, h3, h4⟩
  simp only at hn2 h1 h2 h3 h4
  simp (disch := omega) [upd_eq]
  refine callT_own (first := []) (caps := []) (put (newF key) ls hls (id := id) (fx := true) h2 h3) ?_
  rintro r ⟨bk3, nt3⟩ hn3 ⟨rfl, h6⟩
  simp only at hn3 h6
  have hr : sumB (finF (absorb (newF key) (padI (partsI ls ++ [128])))) = macI key ls := rfl
  have hz : bk3 0 = some ⟨bl z16, true⟩ := by rw [h6 0 (by omega) (by omega), h4 0 (by omega)]; simp [upd_eq]
  rw [hr]
  simp (disch := omega) [upd_eq, tySum, hz, store_smA (l := macI key ls) (by simp), putSeg_bl (l := z16) (m := macI key ls) (by simp), segA_bl (l := macI key ls) (by simp), resA_L Try.results82]
end Go.Proofs.Ytgefihgogfkjoaa
