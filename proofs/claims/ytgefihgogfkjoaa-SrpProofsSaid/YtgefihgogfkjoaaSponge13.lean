/-
  Sponge13: the document's Of, Mac, Bytes, Stretch.
-/
import Derived.Test.YtgefihgogfkjoaaSponge12
set_option linter.unusedSimpArgs false
set_option linter.unusedVariables false
namespace Go.Proofs.Ytgefihgogfkjoaa
open Go.Am

theorem rof (ls : List (List Int)) (hs : Short ls) (h0 : ls ≠ []) : ASpec Try.prog 36 [roBB ls] (smA (macI [] ls)) := by
  refine ASpec.start 1000 Try.func36 (fn := Try.f36) rfl (by decide) mixed (by kernel_rfl) (by simp) ?_
  have hl := hs.2
  simp (disch := omega) [ini, upd_eq, tySum]
  refine callT_of (rparts ls hs h0) rfl rfl ?_
  simp (disch := omega) [upd_eq]
  refine callT_of (rraw .nils [] (partsI ls) (.inr ⟨rfl, rfl⟩) (by decide) (by omega)) rfl (by simp) ?_
  have hr : rawI [] (partsI ls) = macI [] ls := rfl
  rw [hr]
  simp (disch := omega) [upd_eq, tySum, store_smA (l := macI [] ls) (by simp), putSeg_bl (l := z16) (m := macI [] ls) (by simp), segA_bl (l := macI [] ls) (by simp), resA_L Try.results36]
theorem rmac (key : List Int) (ls : List (List Int)) (hk : key.length ≤ 400000000000) (hs : Short ls) (h0 : ls ≠ []) : ASpec Try.prog 84 [roB key, roBB ls] (smA (macI key ls)) := by
  refine ASpec.start 1000 Try.func84 (fn := Try.f84) rfl (by decide) mixed (by kernel_rfl) (by simp) ?_
  have hl := hs.2
  simp (disch := omega) [ini, upd_eq, tySum]
  refine callT_of (rparts ls hs h0) rfl rfl ?_
  simp (disch := omega) [upd_eq]
  refine callT_of (rraw (roB key) key (partsI ls) (.inl rfl) hk (by omega)) rfl (by simp) ?_
  have hr : rawI key (partsI ls) = macI key ls := rfl
  rw [hr]
  simp (disch := omega) [upd_eq, tySum, store_smA (l := macI key ls) (by simp), putSeg_bl (l := z16) (m := macI key ls) (by simp), segA_bl (l := macI key ls) (by simp), resA_L Try.results84]
theorem short1 {l : List Int} (h : l.length ≤ 100000000000) : Short [l] := ⟨small1 (by omega), by simp [partsI]; omega⟩
theorem rbytesS (l : List Int) (hl : l.length = 16) : ASpec Try.prog 20 [smA l] (roB l) := by
  refine ASpec.start 1000 Try.func20 (fn := Try.f20) rfl (by decide) mixed (by kernel_rfl) (by simp) ?_
  simp (disch := omega) [ini, upd_eq]
  refine goT_downS (X := Nat × Nat × Nat) (fun x => 16 - x.1) (fun x => stH [(1, .ptr 0 0), (3, if x.1 = 0 then .nils else .sl x.2.1 0 1 x.1), (4, .int .i64 (x.1 : Nat))]
      ⟨fun j => if j = 0 then some ⟨bl l, true⟩ else if x.1 ≠ 0 ∧ j = x.2.1 then some ⟨bl (l.take x.1), false⟩ else none, x.2.2⟩)
    (fun x => x.1 ≤ 16 ∧ 0 < x.2.1 ∧ x.2.1 < x.2.2) ?_ (0, 1, 2) ⟨Nat.zero_le _, by simp, by simp⟩ ?_
  · rintro ⟨i, id, m⟩ ⟨hi, hid0, hid⟩ IH
    simp only at hi hid0 hid IH ⊢
    refine goT_round mixed 100 ?_
    by_cases hend : i = 16
    · subst hend
      have e : l.take 16 = l := List.take_of_length_le (by omega)
      simp (disch := omega) [stH_eq, upd_eq, e, resA_L Try.results20]
      exact view_slb (f := false) (by simp [show id ≠ 0 by omega]) hl
    · have hi16 : i < 16 := by omega
      have g : (bl l)[i]? = some (.int .u8 (gI l i)) := bl_get (by omega)
      have ht : l.take (i + 1) = l.take i ++ [gI l i] := by
        rw [List.take_add_one]
        simp [gI, show i < l.length by omega]
      have hcl : ∀ j b (bk' : Nat → Option Blk) (j' : Nat), bk' 0 = some ⟨bl l, true⟩ → bk' j' = some ⟨bl (l.take i ++ [gI l i]), false⟩ → (if j = 0 then some (⟨bl l, true⟩ : Blk) else if i + 1 ≠ 0 ∧ j = j' then some (⟨bl (l.take (i + 1)), false⟩ : Blk) else none) = some b → bk' j = some b := by
        intro j b bk' j' h0 h1 h2
        rw [ht] at h2
        by_cases hj0 : j = 0
        · subst hj0; simpa [h0] using h2
        · by_cases hj : j = j'
          · subst hj; simpa [h1, hj0] using h2
          · simp [hj, hj0] at h2
      by_cases h0 : i = 0
      · subst h0
        simp (disch := omega) [stH_eq, upd_eq, tySum, tyU8, tyBytes, g, build1b]
        simp (disch := omega) [upd_eq, appendA, appendB, srcA, zOkU8, HP.add, bl_take, tyInt, in_i64]
        refine IH (1, m + 1, m + 2) _ ⟨by simp only; omega, by simp only; omega, by simp only; omega⟩ (by simp only; omega) (Am.Sub.of (by simp) (by simp [upd_eq]) fun j b hb' => hcl j b _ (m + 1) (by simp [upd_eq, show (0 : Nat) ≠ m by omega]) (by simp [upd_eq]) hb')
      · have n0 : (0 : Nat) ≠ id := by omega
        simp (disch := omega) [stH_eq, upd_eq, tySum, tyU8, tyBytes, g, h0, hi16, show (i : Int) < 16 by omega, build1b]
        have hidm : id ≠ m := by omega
        have hil : i ≤ l.length := by omega
        have ht2 : (l.take i).length = i := by simp; omega
        have ht3 : (l.take i).take i = l.take i := List.take_of_length_le (by omega)
        simp (disch := omega) [upd_eq, appendA, appendB, srcA, zOkU8, HP.move, bl_take, bl_app, hidm, Ne.symm n0, hil, ht3, tyInt, in_i64, show i + 1 ≤ 70368744177664 by omega, show i + 1 ≤ 4611686018427387904 by omega]
        refine IH (i + 1, m + 1, m + 2) _ ⟨by simp only; omega, by simp only; omega, by simp only; omega⟩ (by simp only; omega) (Am.Sub.of (by simp) (by simp [upd_eq]) fun j b hb' => hcl j b _ (m + 1) (by simp [upd_eq, n0, show (0 : Nat) ≠ m by omega]) (by simp [upd_eq]) hb')
  · refine Am.Sub.of (by simp) (by simp [upd_eq]) fun j b hb' => ?_
    simp only [upd_eq] at hb' ⊢
    by_cases hj0 : j = 0
    · subst hj0; simpa using hb'
    · simp [hj0] at hb'
theorem rstretch (pass salt : List Int) (hp : pass.length ≤ 100000000000) (hs : salt.length ≤ 100000000000) : ASpec Try.prog 88 [roB pass, roB salt, .int .i64 3] (smA (stretchI pass salt)) := by
  refine ASpec.start 1000 Try.func88 (fn := Try.f88) rfl (by decide) mixed (by kernel_rfl) (by simp) ?_
  simp (disch := omega) [ini, upd_eq, tySum, tyBB, buildBB1 (cellsA_roB salt)]
  refine callT_view (r := smA (macI pass [salt])) ?_ (by simp) ?_
  · have hv := view_parts (bk := upd (upd noBk 0 (some ⟨bl z16, true⟩)) 1 (some ⟨[roB salt], true⟩)) (nt := 2) (id := 1) (f := true) [salt] (by simp [upd_eq])
    simp only [List.length_cons, List.length_nil, Nat.zero_add] at hv
    simp only [List.map_cons, List.map_nil, view_roB, hv]
    exact rmac pass [salt] (by omega) (short1 hs) (by simp)
  obtain ⟨u0, hu0, hl0⟩ : ∃ u0, u0 = macI pass [salt] ∧ u0.length = 16 := ⟨_, rfl, by simp⟩
  rw [← hu0]
  simp (disch := omega) [upd_eq, tySum, store_smA hl0, putSeg_bl (l := z16) (m := u0) (by simp [hl0]), segA_bl hl0]
  have hst : (u0, u0) = stretchK pass u0 0 := rfl
  refine goT_downS (X := Nat) (fun i => 2 - i) (fun i => stH [(0, roB pass), (2, .int .i64 3), (6, .ptr 0 0), (7, .ptr 2 0), (8, .ptr 3 0), (9, .int .i64 ((i + 1 : Nat) : Int))]
      ⟨fun j => if j = 0 then some ⟨bl z16, true⟩ else if j = 2 then some ⟨bl (stretchK pass u0 i).1, true⟩ else if j = 3 then some ⟨bl (stretchK pass u0 i).2, true⟩ else none, 4 + i⟩)
    (fun i => i ≤ 2) ?_ 0 (by decide) ?_
  · intro i hi IH
    refine goT_round mixed 100 ?_
    obtain ⟨l1, l2⟩ := stretchK_length pass u0 hl0 i
    by_cases h2 : i = 2
    · subst h2
      obtain ⟨R, hR⟩ : ∃ R, R = (stretchK pass u0 2).2 := ⟨_, rfl⟩
      rw [← hR] at l2 ⊢
      simp (disch := omega) [stH_eq, upd_eq, tySum, store_smA l2, putSeg_bl (l := z16) (m := R) (by simp [l2]), segA_bl l2, resA_L Try.results88]
      rw [hR, hu0]; rfl
    · have hi2 : i < 2 := by omega
      obtain ⟨u, hu⟩ : ∃ u, u = (stretchK pass u0 i).1 := ⟨_, rfl⟩
      obtain ⟨o, ho⟩ : ∃ o, o = (stretchK pass u0 i).2 := ⟨_, rfl⟩
      rw [← hu] at l1
      rw [← ho] at l2
      have n0 : (0 : Nat) ≠ 4 + i := by omega
      have n2 : (2 : Nat) ≠ 4 + i := by omega
      have n3 : (3 : Nat) ≠ 4 + i := by omega
      simp (disch := omega) [stH_eq, upd_eq, tySum, tyBB, show (i : Int) + 1 < 3 by omega, show (i : Int) + 1 < 1000 by omega, ← hu, ← ho, l1, segA_bl l1]
      refine callT_of (rbytesS u l1) (by simp [noRefs]) rfl ?_
      simp (disch := omega) [upd_eq, tyBB, buildBB1 (cellsA_roB u)]
      refine callT_view (r := smA (macI pass [u])) ?_ (by simp) ?_
      · have hv := view_parts (bk := upd (fun j => if j = 0 then some ⟨bl z16, true⟩ else if j = 2 then some ⟨bl u, true⟩ else if j = 3 then some ⟨bl o, true⟩ else none) (4 + i) (some ⟨[roB u], true⟩)) (nt := 4 + i + 1) (id := 4 + i) (f := true) [u] (by simp [upd_eq])
        simp only [List.length_cons, List.length_nil, Nat.zero_add] at hv
        simp only [List.map_cons, List.map_nil, view_roB, hv]
        exact rmac pass [u] (by omega) (short1 (by omega)) (by simp)
      obtain ⟨m, hm, hml⟩ : ∃ m, m = macI pass [u] ∧ m.length = 16 := ⟨_, rfl, by simp⟩
      rw [← hm]
      simp (disch := omega) [upd_eq, tySum, store_smA hml, putSeg_bl (l := u) (m := m) (by simp [hml, l1]), n2]
      refine goT_downS (X := Nat) (fun k => 16 - k) (fun k => stH [(0, roB pass), (2, .int .i64 3), (6, .ptr 0 0), (7, .ptr 2 0), (8, .ptr 3 0), (9, .int .i64 ((i + 1 : Nat) : Int)), (10, .int .i64 (k : Nat))]
          ⟨fun j => if j = 0 then some ⟨bl z16, true⟩ else if j = 2 then some ⟨bl m, true⟩ else if j = 3 then some ⟨bl (xorK o m k), true⟩ else none, 4 + i + 1⟩)
        (fun k => k ≤ 16) ?_ 0 (by decide) ?_
      · intro k hk IH2
        refine goT_round mixed 100 ?_
        by_cases hk16 : k = 16
        · subst hk16
          simp (disch := omega) [stH_eq, upd_eq, tyInt, in_i64]
          refine IH (i + 1) _ (by omega) (by omega) (Am.Sub.of (by simp; omega) (by simp [upd_eq]) fun j b hb' => ?_)
          have e1 : (stretchK pass u0 (i + 1)).1 = m := by rw [hm, hu]; rfl
          have e2 : (stretchK pass u0 (i + 1)).2 = xorK o m 16 := by rw [hm, hu, ho]; rfl
          rw [e1, e2] at hb'
          exact hb'
        · have hk2 : k < 16 := by omega
          have g1 : (bl (xorK o m k))[k]? = some (.int .u8 (gI o k)) := by rw [bl_get (by simpa using hk2), gI_xorK hk2]
          have g2 : (bl m)[k]? = some (.int .u8 (gI m k)) := bl_get (by omega)
          have hset := fun v hv => xorK_set (o := o) (u := m) hk2 (v := v) hv
          simp (disch := omega) [stH_eq, upd_eq, tySum, tyU8, tyInt, show (k : Int) < 16 by omega, g1, g2, hk2, store_int, in_i64]
          refine IH2 (k + 1) _ (by omega) (by omega) (Am.Sub.of (by simp) (by simp [upd_eq]) fun j b hb' => ?_)
          have hs3 := hset (bitsA .xor .u8 (gI o k) (gI m k)) rfl
          simp only [upd_eq] at hb' ⊢
          by_cases hj : j = 3
          · subst hj; simpa [hs3] using hb'
          · simpa [hj] using hb'
      · refine Am.Sub.of (by simp) (by simp [upd_eq]) fun j b hb' => ?_
        simp only [xorK_zero l2] at hb'
        simp only [upd_eq] at hb' ⊢
        by_cases hj0 : j = 0
        · subst hj0; simpa [n0] using hb'
        · by_cases hj2 : j = 2
          · subst hj2; simpa [n2] using hb'
          · by_cases hj3 : j = 3
            · subst hj3; simpa [n3] using hb'
            · simp [hj0, hj2, hj3] at hb'
  · refine Am.Sub.of (by simp) (by simp [upd_eq]) fun j b hb' => ?_
    rw [← hst] at hb'
    simp only [upd_eq] at hb' ⊢
    by_cases hj0 : j = 0
    · subst hj0; simpa using hb'
    · by_cases hj2 : j = 2
      · subst hj2; simpa using hb'
      · by_cases hj3 : j = 3
        · subst hj3; simpa using hb'
        · simp [hj0, hj2, hj3] at hb'
end Go.Proofs.Ytgefihgogfkjoaa
