/-
  Sponge3: one block; Write, fill: what a sponge is when it has taken bytes.
-/
import Derived.Test.YtgefihgogfkjoaaSponge2
set_option linter.unusedSimpArgs false
set_option linter.unusedVariables false
namespace Go.Proofs.Ytgefihgogfkjoaa
open Go.Am

/-- A sponge: eight words, bytes that wait. -/
def spL (f : Nat → Int) (w : List Int) : List AV := w8 f ++ [roB w]
@[simp] theorem spL_length (f : Nat → Int) (w : List Int) : (spL f w).length = 9 := by simp [spL]
@[simp] theorem refsLts_spL (m : Nat) (f : Nat → Int) (w : List Int) : refsLts m (spL f w) = true := by simp [spL, refsLts_append, refsLts]
theorem spL_w {f : Nat → Int} {w : List Int} {i : Nat} (h : i < 8) : (spL f w)[i]? = some (.int .u32 (f i)) := by
  rw [spL, List.getElem?_append_left (by simpa using h), w8_get h]
@[simp] theorem spL_8 {f : Nat → Int} {w : List Int} : (spL f w)[8]? = some (roB w) := by
  rw [spL, List.getElem?_append_right (by simp)]; simp
@[simp] theorem segA_spL {f : Nat → Int} {w : List Int} : segA (spL f w) 0 8 = some (ws f) := by
  simp [segA, spL, ws, List.take_append_of_le_length, List.take_of_length_le]
@[simp] theorem putSeg_spL {f g : Nat → Int} {w : List Int} : putSeg (spL f w) 0 (w8 g) = some (spL g w) := by
  simp [putSeg, spL, List.drop_append_of_le_length, List.drop_of_length_le]
theorem spL_setw {f : Nat → Int} {w : List Int} {i : Nat} {v : Int} (h : i < 8) : (spL f w).set i (.int .u32 v) = spL (upd f i v) w := by
  rw [spL, List.set_append_left _ _ (by simpa using h), w8_set]; rfl
theorem spL_set8 {f : Nat → Int} {w : List Int} {a : AV} : (spL f w).set 8 a = w8 f ++ [a] := by
  rw [spL, List.set_append_right _ _ (by simp)]; simp
def spF : List (Nat × Nat × Bool) := [(0, 8, true), (8, 1, false)]
theorem tySponge : tyI Try.prog 138 = some ⟨9, 56, true, w8 (fun _ => 0) ++ [.nils], .struct spF⟩ := by kernel_rfl
@[simp] theorem spF0 : nth spF 0 = some (0, 8, true) := rfl
@[simp] theorem spF1 : nth spF 1 = some (8, 1, false) := rfl

theorem resRaw_nil {P : Program} {fn : Func} {σ : AS} (h : fn.results = #[]) : resRaw P fn σ = some (.tup []) := by simp [resRaw, h, resVars]
theorem resRaw_tmp {P : Program} {fn : Func} {σ : AS} {t : Tmp} (h : fn.results = #[.tmp t]) : resRaw P fn σ = some (σ.tm t) := by simp [resRaw, h, resVars, resVar]
theorem upd_upd {α : Type} (f : Nat → α) (i : Nat) (a b : α) : upd (upd f i a) i b = upd f i b := by
  funext j; simp only [upd_eq]; split <;> rfl
theorem bl_ne {l : List Int} (h : 0 < l.length) : bl l ≠ [] := by
  intro e
  have := congrArg List.length e
  rw [bl_length, List.length_nil] at this
  omega
theorem take (f : Nat → Int) (w l : List Int) (hl : l.length = 16) {bk : Nat → Option Blk} {nt id : Nat} {fx : Bool} (hb : bk id = some ⟨spL f w, fx⟩) :
    PSpec Try.prog 112 [.ptr id 0, roB l] ⟨bk, nt⟩ (fun _ h' => h' = ⟨upd bk id (some ⟨spL (blockI f l) w, fx⟩), h'.nt⟩) := by
  refine PSpec.start [] 1000 Try.func112 (fn := Try.f112) rfl (by decide) mixed (by kernel_rfl) (by simp) ?_
  simp (disch := omega) [upd_eq]
  refine goT_downS (X := Nat) (fun i => 4 - i) (fun i => ⟨lk .dead [(0, .ptr id 0), (1, roB l), (5, .int .i64 (i : Nat))], ⟨upd bk id (some ⟨spL (blkF f l i) w, fx⟩), nt⟩⟩) (fun i => i ≤ 4) ?_ 0 (by decide) ?_
  · intro i hi IH
    refine goT_round mixed 100 ?_
    by_cases h4 : i = 4
    · subst h4
      simp (disch := omega) [upd_eq, tySponge, tyWords]
      refine callT_of (mix _) rfl rfl ?_
      simp (disch := omega) [upd_eq, tySponge, tyWords]
      refine resF_own (a := .tup []) (h' := ⟨upd bk id (some ⟨spL (blockI f l) w, fx⟩), nt⟩) rfl (resRaw_nil Try.results112) (Nat.le_refl _) ?_
      intro j b hj
      simp only [upd_eq] at hj ⊢
      split
      · rename_i e; rw [if_pos e] at hj; exact hj
      · rename_i e; rw [if_neg e] at hj; exact hj
    · have hi4 : i < 4 := by omega
      have w0 : IntKind.i64.wrap (4 * (i : Int)) = 4 * (i : Int) := in_i64 (by omega) (by omega)
      have w1 : IntKind.i64.wrap (4 * (i : Int) + 1) = 4 * (i : Int) + 1 := in_i64 (by omega) (by omega)
      have w2 : IntKind.i64.wrap (4 * (i : Int) + 2) = 4 * (i : Int) + 2 := in_i64 (by omega) (by omega)
      have w3 : IntKind.i64.wrap (4 * (i : Int) + 3) = 4 * (i : Int) + 3 := in_i64 (by omega) (by omega)
      have t0 : (4 * (i : Int)).toNat = 4 * i := by omega
      have t1 : (4 * (i : Int) + 1).toNat = 4 * i + 1 := by omega
      have t2 : (4 * (i : Int) + 2).toNat = 4 * i + 2 := by omega
      have t3 : (4 * (i : Int) + 3).toNat = 4 * i + 3 := by omega
      have g0 : (bl l)[4 * i]? = some (.int .u8 (gI l (4 * i))) := bl_get (by omega)
      have g1 : (bl l)[4 * i + 1]? = some (.int .u8 (gI l (4 * i + 1))) := bl_get (by omega)
      have g2 : (bl l)[4 * i + 2]? = some (.int .u8 (gI l (4 * i + 2))) := bl_get (by omega)
      have g3 : (bl l)[4 * i + 3]? = some (.int .u8 (gI l (4 * i + 3))) := bl_get (by omega)
      have hne : bl l ≠ [] := bl_ne (by omega)
      have b0 : 0 ≤ 4 * (i : Int) ∧ 4 * (i : Int) < 16 := by omega
      have b1 : 0 ≤ 4 * (i : Int) + 1 ∧ 4 * (i : Int) + 1 < 16 := by omega
      have b2 : 0 ≤ 4 * (i : Int) + 2 ∧ 4 * (i : Int) + 2 < 16 := by omega
      have b3 : 0 ≤ 4 * (i : Int) + 3 ∧ 4 * (i : Int) + 3 < 16 := by omega
      have gw : (spL (blkF f l i) w)[i]? = some (.int .u32 (blkF f l i i)) := spL_w (by omega)
      have hset : ∀ v : Int, (spL (blkF f l i) w).set i (.int .u32 v) = spL (upd (blkF f l i) i v) w := fun v => spL_setw (by omega)
      simp (disch := omega) [upd_eq, tySponge, tyWords, tyU32, tyU8, tyBytes, tyInt, show (i : Int) < 4 by omega, show i < 8 by omega, show (i : Int) < 8 by omega, show (i : Int) < 9 by omega, show i < 9 by omega, w0, w1, w2, w3, t0, t1, t2, t3, g0, g1, g2, g3, gw, b0, b1, b2, b3, roB, hl, hne, binA_shl, IntKind.bits, convOwn_diff, store_int, hset, in_i64]
      refine IH (i + 1) _ (by omega) (by omega) ?_
      refine Am.Sub.of (by simp) (by simp [upd_eq, roB, hl]) fun j b hj => ?_
      have e : upd (blkF f l i) i (x32 (blkF f l i i) (ldW l i)) = blkF f l (i + 1) := by
        funext k
        simp only [upd_eq, blkF]
        by_cases hk : k = i
        · subst hk; simp
        · by_cases hk2 : k < i
          · simp [hk, hk2, show k < i + 1 by omega]
          · simp [hk, hk2, show ¬ k < i + 1 by omega]
      have e2 : spL (upd (blkF f l i) i (bitsA .xor .u32 (blkF f l i i) (ldW l i))) w = spL (blkF f l (i + 1)) w := by rw [← e]; rfl
      rw [← e2] at hj
      by_cases hj2 : j = id
      · subst hj2; simpa [upd_eq, ldW, ldw] using hj
      · simpa [upd_eq, hj2] using hj
  · refine Am.Sub.of (by simp) (by simp [upd_eq]) fun j b hj => ?_
    have e : blkF f l 0 = f := by funext k; simp [blkF]
    simp only [e] at hj
    simp only [upd_eq] at hj ⊢
    split at hj
    · rename_i h; rw [h, hb]; exact hj
    · exact hj
end Go.Proofs.Ytgefihgogfkjoaa
