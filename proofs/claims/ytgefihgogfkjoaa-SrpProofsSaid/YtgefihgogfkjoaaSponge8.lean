/-
  Sponge8: Stretch, Same.
-/
import Derived.Test.YtgefihgogfkjoaaSponge7
set_option linter.unusedSimpArgs false
set_option linter.unusedVariables false
namespace Go.Proofs.Ytgefihgogfkjoaa
open Go.Am

/-! ### Slices of slices -/
theorem cellsA_roB (l : List Int) : cellsA (roB l) = some [roB l] := rfl
theorem cellsA_sl (id off es n : Nat) : cellsA (.sl id off es n) = some [.sl id off es n] := rfl
section
variable {bk : Nat → Option Blk} {nt : Nat} {a0 a1 a2 a3 a4 : AV}
theorem buildBB1 (h0 : cellsA a0 = some [a0]) : buildSliceA Try.prog ⟨1, 24, false, [.nils], .slice 22 1 false 24⟩ ⟨bk, nt⟩ 1 [(0, a0)] = some (.sl nt 0 1 1, ⟨upd bk nt (some ⟨[a0], true⟩), nt + 1⟩) := by
  have hf : fillA (fun j => some (j * 1, 1)) (zerosA [AV.nils] 1) [(0, a0)] = some [a0] := by simp [fillA, h0, zerosA]
  simp only [buildSliceA, tyBytes, hf]
  rfl
theorem buildBB2 (h0 : cellsA a0 = some [a0]) (h1 : cellsA a1 = some [a1]) : buildSliceA Try.prog ⟨1, 24, false, [.nils], .slice 22 1 false 24⟩ ⟨bk, nt⟩ 2 [(0, a0), (1, a1)] = some (.sl nt 0 1 2, ⟨upd bk nt (some ⟨[a0, a1], true⟩), nt + 1⟩) := by
  have hf : fillA (fun j => some (j * 1, 1)) (zerosA [AV.nils] 2) [(0, a0), (1, a1)] = some [a0, a1] := by simp [fillA, h0, h1, zerosA]
  simp only [buildSliceA, tyBytes, hf]
  rfl
theorem buildBB3 (h0 : cellsA a0 = some [a0]) (h1 : cellsA a1 = some [a1]) (h2 : cellsA a2 = some [a2]) :
    buildSliceA Try.prog ⟨1, 24, false, [.nils], .slice 22 1 false 24⟩ ⟨bk, nt⟩ 3 [(0, a0), (1, a1), (2, a2)] = some (.sl nt 0 1 3, ⟨upd bk nt (some ⟨[a0, a1, a2], true⟩), nt + 1⟩) := by
  have hf : fillA (fun j => some (j * 1, 1)) (zerosA [AV.nils] 3) [(0, a0), (1, a1), (2, a2)] = some [a0, a1, a2] := by simp [fillA, h0, h1, h2, zerosA]
  simp only [buildSliceA, tyBytes, hf]
  rfl
theorem buildBB4 (h0 : cellsA a0 = some [a0]) (h1 : cellsA a1 = some [a1]) (h2 : cellsA a2 = some [a2]) (h3 : cellsA a3 = some [a3]) :
    buildSliceA Try.prog ⟨1, 24, false, [.nils], .slice 22 1 false 24⟩ ⟨bk, nt⟩ 4 [(0, a0), (1, a1), (2, a2), (3, a3)] = some (.sl nt 0 1 4, ⟨upd bk nt (some ⟨[a0, a1, a2, a3], true⟩), nt + 1⟩) := by
  have hf : fillA (fun j => some (j * 1, 1)) (zerosA [AV.nils] 4) [(0, a0), (1, a1), (2, a2), (3, a3)] = some [a0, a1, a2, a3] := by simp [fillA, h0, h1, h2, h3, zerosA]
  simp only [buildSliceA, tyBytes, hf]
  rfl
theorem buildBB5 (h0 : cellsA a0 = some [a0]) (h1 : cellsA a1 = some [a1]) (h2 : cellsA a2 = some [a2]) (h3 : cellsA a3 = some [a3]) (h4 : cellsA a4 = some [a4]) :
    buildSliceA Try.prog ⟨1, 24, false, [.nils], .slice 22 1 false 24⟩ ⟨bk, nt⟩ 5 [(0, a0), (1, a1), (2, a2), (3, a3), (4, a4)] = some (.sl nt 0 1 5, ⟨upd bk nt (some ⟨[a0, a1, a2, a3, a4], true⟩), nt + 1⟩) := by
  have hf : fillA (fun j => some (j * 1, 1)) (zerosA [AV.nils] 5) [(0, a0), (1, a1), (2, a2), (3, a3), (4, a4)] = some [a0, a1, a2, a3, a4] := by simp [fillA, h0, h1, h2, h3, h4, zerosA]
  simp only [buildSliceA, tyBytes, hf]
  rfl
end
theorem noRefs_mroB : ∀ ls : List (List Int), noRefs (ls.map roB) = true
  | [] => rfl
  | l :: ls => by rw [List.map_cons, noRefs, noRefs_mroB ls]; rfl
/-- Parts shown to a callee. -/
theorem view_parts {bk : Nat → Option Blk} {nt id : Nat} {f : Bool} (ls : List (List Int)) (hb : bk id = some ⟨ls.map roB, f⟩) : view ⟨bk, nt⟩ (.sl id 0 1 ls.length) = roBB ls := by
  rw [view_sl (cs := ls.map roB) (f := f) hb (by simp) (noRefs_mroB ls)]
  simp [roBB, List.take_of_length_le]
theorem dv_roB (h : HP) (n : Nat) (l : List Int) : Am.dv h n (roB l) = roB l := by cases n <;> simp [Am.dv, roB, noRef]
theorem dv_bl (h : HP) (n : Nat) (l : List Int) : (bl l).map (Am.dv h n) = bl l := by
  unfold bl
  rw [List.map_map]
  refine List.map_congr_left fun b _ => ?_
  cases n <;> simp [Am.dv, u8A, noRef]
theorem dv_slb {bk : Nat → Option Blk} {nt id n k : Nat} {l : List Int} {f : Bool} (hb : bk id = some ⟨bl l, f⟩) (hl : l.length = k) : Am.dv ⟨bk, nt⟩ (n + 1) (.sl id 0 1 k) = roB l := by
  subst hl
  rw [Am.dv, srcA_sl1 hb (by simp)]
  simp only [dv_bl]
  rfl
theorem dv_mroB (h : HP) (n : Nat) (ls : List (List Int)) : (ls.map roB).map (Am.dv h n) = ls.map roB := by
  rw [List.map_map]
  exact List.map_congr_left fun l _ => dv_roB h n l
/-- Parts, the last of which is a slice of the call's own. -/
theorem view_parts2 {bk : Nat → Option Blk} {nt id j k : Nat} {f f2 : Bool} (ls : List (List Int)) {l : List Int} (hb : bk id = some ⟨ls.map roB ++ [.sl j 0 1 k], f⟩) (hj : bk j = some ⟨bl l, f2⟩) (hk : l.length = k) : view ⟨bk, nt⟩ (.sl id 0 1 (ls.length + 1)) = roBB (ls ++ [l]) := by
  have hs : srcA 1 ⟨bk, nt⟩ (.sl id 0 1 (ls.length + 1)) = some (ls.length + 1, ls.map roB ++ [.sl j 0 1 k]) := srcA_sl1 hb (by simp)
  have hno : noRefs (ls.map roB ++ [AV.sl j 0 1 k]) = false := by rw [noRefs_append]; simp [noRefs, noRef]
  simp only [view, view1, hs, hno, Bool.false_eq_true, if_false]
  rw [show (3 : Nat) = 2 + 1 from rfl, Am.dv, hs]
  simp only [List.map_append, dv_mroB, List.map_cons, List.map_nil]
  rw [show (2 : Nat) = 1 + 1 from rfl, dv_slb hj hk]
  simp [roBB]
theorem view_slb {bk : Nat → Option Blk} {nt id k : Nat} {l : List Int} {f : Bool} (hb : bk id = some ⟨bl l, f⟩) (hl : l.length = k) : view ⟨bk, nt⟩ (.sl id 0 1 k) = roB l := by
  subst hl
  rw [view_sl (cs := bl l) (f := f) hb (by simp) (noRefs_bl l)]
  simp [roB, List.take_of_length_le]

/-! ### Stretch -/
def x8 (a b : Int) : Int := bitsA .xor .u8 a b
def xorF (o u : List Int) (k j : Nat) : Int := if j < k then x8 (gI o j) (gI u j) else gI o j
def xorK (o u : List Int) (k : Nat) : List Int := (List.range 16).map (xorF o u k)
def xorI (o u : List Int) : List Int := xorK o u 16
@[simp] theorem xorK_length (o u : List Int) (k : Nat) : (xorK o u k).length = 16 := by simp [xorK]
@[simp] theorem xorI_length (o u : List Int) : (xorI o u).length = 16 := xorK_length o u 16
theorem list_gI {l : List Int} (h : l.length = 16) : (List.range 16).map (gI l) = l := by
  apply List.ext_getElem
  · simp [h]
  · intro i h1 h2
    simp [gI, h2]
theorem xorK_zero {o u : List Int} (h : o.length = 16) : xorK o u 0 = o := by
  have : xorF o u 0 = gI o := by funext j; simp [xorF]
  rw [xorK, this, list_gI h]
theorem gI_xorK {o u : List Int} {k : Nat} (hk : k < 16) : gI (xorK o u k) k = gI o k := by
  simp [gI, xorK, hk, xorF]
theorem xorK_set {o u : List Int} {k : Nat} (hk : k < 16) {v : Int} (hv : v = x8 (gI o k) (gI u k)) : (bl (xorK o u k)).set k (.int .u8 v) = bl (xorK o u (k + 1)) := by
  subst hv
  unfold xorK
  rw [← bl_famL, famL_set, ← bl_famL]
  refine famL_congr fun j _ => ?_
  unfold upd xorF
  by_cases h1 : j = k
  · subst h1; simp
  · by_cases h2 : j < k
    · simp [h1, h2, show j < k + 1 by omega]
    · simp [h1, h2, show ¬ j < k + 1 by omega]
/-- u and what has come so far, k times on -/
def stretchK (pass : List Int) (u : List Int) : Nat → List Int × List Int
  | 0 => (u, u)
  | k + 1 => (macI pass [(stretchK pass u k).1], xorI (stretchK pass u k).2 (macI pass [(stretchK pass u k).1]))
def stretchI (pass salt : List Int) : List Int := (stretchK pass (macI pass [salt]) 2).2
theorem stretchK_length (pass u : List Int) (hu : u.length = 16) : ∀ k, (stretchK pass u k).1.length = 16 ∧ (stretchK pass u k).2.length = 16
  | 0 => ⟨hu, hu⟩
  | k + 1 => ⟨by simp [stretchK], by simp [stretchK]⟩
@[simp] theorem stretchI_length (pass salt : List Int) : (stretchI pass salt).length = 16 := (stretchK_length _ _ (by simp) 2).2
theorem small1 {l : List Int} (h : l.length ≤ 400000000000) : Small [l] := ⟨by simp, by simpa using h⟩

theorem stretch (pass salt : List Int) (hp : pass.length ≤ 400000000000) (hs : salt.length ≤ 400000000000) : ASpec Try.prog 77 [roB pass, roB salt, .int .i64 3] (smA (stretchI pass salt)) := by
  refine ASpec.start 1000 Try.func77 (fn := Try.f77) rfl (by decide) mixed (by kernel_rfl) (by simp) ?_
  simp (disch := omega) [ini, upd_eq, tySum, tyBB, buildBB1 (cellsA_roB salt)]
  refine callT_view (r := smA (macI pass [salt])) ?_ (by simp) ?_
  · have hv := view_parts (bk := upd (upd noBk 0 (some ⟨bl z16, true⟩)) 1 (some ⟨[roB salt], true⟩)) (nt := 2) (id := 1) (f := true) [salt] (by simp [upd_eq])
    simp only [List.length_cons, List.length_nil, Nat.zero_add] at hv
    simp only [List.map_cons, List.map_nil, view_roB, hv]
    exact mac pass [salt] hp (small1 hs)
  obtain ⟨u0, hu0, hl0⟩ : ∃ u0, u0 = macI pass [salt] ∧ u0.length = 16 := ⟨_, rfl, by simp⟩
  rw [← hu0]
  simp (disch := omega) [upd_eq, tySum, store_smA hl0, putSeg_bl (l := z16) (m := u0) (by simp [hl0]), segA_bl hl0, bltA, minA, maxA, tyInt, in_i64]
  have hst : (u0, u0) = stretchK pass u0 0 := rfl
  refine goT_downS (X := Nat) (fun i => 2 - i) (fun i => stH [(0, roB pass), (6, .ptr 0 0), (7, .ptr 2 0), (8, .ptr 3 0), (18, .int .i64 2), (19, .int .i64 (i : Nat))]
      ⟨fun j => if j = 0 then some ⟨bl z16, true⟩ else if j = 2 then some ⟨bl (stretchK pass u0 i).1, true⟩ else if j = 3 then some ⟨bl (stretchK pass u0 i).2, true⟩ else none, 4 + i⟩)
    (fun i => i ≤ 2) ?_ 0 (by decide) ?_
  · intro i hi IH
    refine goT_round mixed 100 ?_
    obtain ⟨l1, l2⟩ := stretchK_length pass u0 hl0 i
    by_cases h2 : i = 2
    · subst h2
      obtain ⟨R, hR⟩ : ∃ R, R = (stretchK pass u0 2).2 := ⟨_, rfl⟩
      rw [← hR] at l2 ⊢
      simp (disch := omega) [stH_eq, upd_eq, tySum, store_smA l2, putSeg_bl (l := z16) (m := R) (by simp [l2]), segA_bl l2, resA_L Try.results77]
      rw [hR, hu0]; rfl
    · have hi2 : i < 2 := by omega
      obtain ⟨u, hu⟩ : ∃ u, u = (stretchK pass u0 i).1 := ⟨_, rfl⟩
      obtain ⟨o, ho⟩ : ∃ o, o = (stretchK pass u0 i).2 := ⟨_, rfl⟩
      rw [← hu] at l1
      rw [← ho] at l2
      have n0 : (0 : Nat) ≠ 4 + i := by omega
      have n2 : (2 : Nat) ≠ 4 + i := by omega
      have n3 : (3 : Nat) ≠ 4 + i := by omega
      simp (disch := omega) [stH_eq, upd_eq, tySum, tyBB, show (i : Int) < 2 by omega, buildBB1 (cellsA_sl _ _ _ _), ← hu, ← ho, l1, n2]
      refine callT_view (r := smA (macI pass [u])) ?_ (by simp) ?_
      · have hv := view_parts2 (bk := upd (fun j => if j = 0 then some ⟨bl z16, true⟩ else if j = 2 then some ⟨bl u, true⟩ else if j = 3 then some ⟨bl o, true⟩ else none) (4 + i) (some ⟨[.sl 2 0 1 16], true⟩)) (nt := 4 + i + 1) (id := 4 + i) (j := 2) (k := 16) (f := true) (f2 := true) [] (l := u) (by simp [upd_eq]) (by simp [upd_eq, n2]) l1
        simp only [List.length_nil, Nat.zero_add, List.nil_append] at hv
        simp only [List.map_cons, List.map_nil, view_roB, hv]
        exact mac pass [u] hp (small1 (by omega))
      obtain ⟨m, hm, hml⟩ : ∃ m, m = macI pass [u] ∧ m.length = 16 := ⟨_, rfl, by simp⟩
      rw [← hm]
      simp (disch := omega) [upd_eq, tySum, store_smA hml, putSeg_bl (l := u) (m := m) (by simp [hml, l1]), n2]
      refine goT_downS (X := Nat) (fun k => 16 - k) (fun k => stH [(0, roB pass), (6, .ptr 0 0), (7, .ptr 2 0), (8, .ptr 3 0), (18, .int .i64 2), (19, .int .i64 (i : Nat)), (25, .int .i64 (k : Nat))]
          ⟨fun j => if j = 0 then some ⟨bl z16, true⟩ else if j = 2 then some ⟨bl m, true⟩ else if j = 3 then some ⟨bl (xorK o m k), true⟩ else none, 4 + i + 1⟩)
        (fun k => k ≤ 16) ?_ 0 (by decide) ?_
      · intro k hk IH2
        refine goT_round mixed 100 ?_
        by_cases hk16 : k = 16
        · subst hk16
          simp (disch := omega) [stH_eq, upd_eq, tyInt, in_i64]
          refine IH (i + 1) _ (by omega) (by omega) (Am.Sub.of (by simp; omega) (by simp [upd_eq]) fun j b hb' => ?_)
          have e1 : (stretchK pass u0 (i + 1)).1 = m := by rw [hm, hu]; rfl
          have e2 : (stretchK pass u0 (i + 1)).2 = xorK o m 16 := by rw [hm, hu, ho]; rfl
          rw [e1, e2] at hb'
          exact hb'
        · have hk2 : k < 16 := by omega
          have g1 : (bl (xorK o m k))[k]? = some (.int .u8 (gI o k)) := by rw [bl_get (by simpa using hk2), gI_xorK hk2]
          have g2 : (bl m)[k]? = some (.int .u8 (gI m k)) := bl_get (by omega)
          have hset := fun v hv => xorK_set (o := o) (u := m) hk2 (v := v) hv
          simp (disch := omega) [stH_eq, upd_eq, tySum, tyU8, tyInt, show (k : Int) < 16 by omega, g1, g2, hk2, store_int, in_i64]
          refine IH2 (k + 1) _ (by omega) (by omega) (Am.Sub.of (by simp) (by simp [upd_eq]) fun j b hb' => ?_)
          have hs3 := hset (bitsA .xor .u8 (gI o k) (gI m k)) rfl
          simp only [upd_eq] at hb' ⊢
          by_cases hj : j = 3
          · subst hj; simpa [hs3] using hb'
          · simpa [hj] using hb'
      · refine Am.Sub.of (by simp) (by simp [upd_eq]) fun j b hb' => ?_
        simp only [xorK_zero l2] at hb'
        simp only [upd_eq] at hb' ⊢
        by_cases hj0 : j = 0
        · subst hj0; simpa [n0] using hb'
        · by_cases hj2 : j = 2
          · subst hj2; simpa [n2] using hb'
          · by_cases hj3 : j = 3
            · subst hj3; simpa [n3] using hb'
            · simp [hj0, hj2, hj3] at hb'
  · refine Am.Sub.of (by simp) (by simp [upd_eq]) fun j b hb' => ?_
    rw [← hst] at hb'
    simp only [upd_eq] at hb' ⊢
    by_cases hj0 : j = 0
    · subst hj0; simpa using hb'
    · by_cases hj2 : j = 2
      · subst hj2; simpa using hb'
      · by_cases hj3 : j = 3
        · subst hj3; simpa using hb'
        · simp [hj0, hj2, hj3] at hb'
end Go.Proofs.Ytgefihgogfkjoaa
