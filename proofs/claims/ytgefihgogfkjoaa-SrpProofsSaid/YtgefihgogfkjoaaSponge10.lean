/-
  Sponge10: the document's sponge.
-/
import Derived.Test.YtgefihgogfkjoaaSponge9
set_option linter.unusedSimpArgs false
set_option linter.unusedVariables false
namespace Go.Proofs.Ytgefihgogfkjoaa
open Go.Am

/-- What a function leaves that hands back a new slice of bytes. -/
def NewB (l : List Int) (bk : Nat → Option Blk) (nt : Nat) (r : AV) (h' : HP) : Prop := ∃ j f, nt ≤ j ∧ j < h'.nt ∧ r = .sl j 0 1 l.length ∧ h'.bk j = some ⟨bl l, f⟩ ∧ ∀ i, i < nt → h'.bk i = bk i
theorem newB_out {P : Program} {fn : FnE} {σ : AS} {l : List Int} {bk : Nat → Option Blk} {nt j : Nat} {f : Bool} (hj : nt ≤ j) (hj2 : j < σ.h.nt) (hb : σ.h.bk j = some ⟨bl l, f⟩) (ho : ∀ i, i < nt → σ.h.bk i = bk i) (hr : resRaw P fn.fn σ = some (.sl j 0 1 l.length)) :
    resF P fn σ (.own (NewB l bk nt)) := by
  refine resF_own (a := .sl j 0 1 l.length) (h' := σ.h) ⟨j, f, hj, hj2, rfl, hb, ho⟩ hr (Nat.le_refl _) fun i b h => h
theorem reightP (n : Int) {bk : Nat → Option Blk} {nt : Nat} : PSpec Try.prog 93 [.int .i64 n] ⟨bk, nt⟩ (NewB (eightI n) bk nt) := by
  refine PSpec.start [] 1000 Try.func93 (fn := Try.f93) rfl (by decide) mixed (by kernel_rfl) (by simp) ?_
  have hc : ∀ (i : Nat), i < 8 → IntKind.i64.wrap (8 * (i : Int)) = 8 * (i : Int) ∧ IntKind.u64.wrap (IntKind.i64.wrap (56 - 8 * (i : Int))) = ((56 - 8 * i : Nat) : Int) ∧ min (56 - 8 * i) 64 = 56 - 8 * i := by
    intro i hi
    refine ⟨in_i64 (by omega) (by omega), ?_, by omega⟩
    rw [in_i64 (by omega) (by omega), in_u64 (by omega) (by omega)]; omega
  simp (disch := omega) [ini, upd_eq, tyBytes, tyU8]
  refine goT_round mixed 100 ?_
  simp (disch := omega) [upd_eq, tyBytes, tyU8, tyInt, tyUint, convOwn_diff, binA_shr, IntKind.bits, build1b, in_i64, in_u64]
  simp (disch := omega) [upd_eq, appendA, appendB, srcA, zOkU8, HP.add, tyInt, in_i64, bl_take]
  refine goT_downS (X := Nat × Nat × Nat) (fun x => 8 - x.1) (fun x => stH [(0, .int .i64 n), (3, .sl x.2.1 0 1 x.1), (4, .int .i64 (x.1 : Nat))] ⟨fun j => if j = x.2.1 then some ⟨bl ((eightI n).take x.1), false⟩ else if j < nt then bk j else none, x.2.2⟩)
    (fun x => 1 ≤ x.1 ∧ x.1 ≤ 8 ∧ nt ≤ x.2.1 ∧ x.2.1 < x.2.2) ?_ (1, nt + 1, nt + 2) ⟨by simp, by simp, by simp, by simp⟩ ?_
  · rintro ⟨i, id, m⟩ ⟨hi1, hi, hid, hm⟩ IH
    simp only at hi1 hi hid hm IH ⊢
    refine goT_round mixed 100 ?_
    by_cases h8 : i = 8
    · subst h8
      have e8 : (eightI n).take 8 = eightI n := List.take_of_length_le (by simp)
      simp (disch := omega) [stH_eq, upd_eq]
      exact newB_out (j := id) (f := false) hid hm (by simp [e8]) (fun i hi => by simp [hi]; omega) (by rw [resRaw_tmp Try.results93]; simp [upd_eq])
    · have hi8 : i < 8 := by omega
      obtain ⟨e1, e2, e3⟩ := hc i hi8
      have hl : ((eightI n).take i).length = i := by simp; omega
      have ht := eightI_take n i hi8
      have hmn : m ≠ id := by omega
      simp (disch := omega) [stH_eq, upd_eq, tyBytes, tyU8, tyInt, tyUint, show (i : Int) < 8 by omega, convOwn_diff, e1, e2, e3, binA_shr, IntKind.bits, build1b]
      simp (disch := omega) [upd_eq, appendA, appendB, srcA, zOkU8, HP.move, tyInt, in_i64, bl_take, hl, bl_app, show i ≤ 8 by omega, show i + 1 ≤ 70368744177664 by omega, show i + 1 ≤ 4611686018427387904 by omega, Ne.symm hmn]
      refine IH (i + 1, m + 1, m + 2) _ ⟨by simp only; omega, by simp only; omega, by simp only; omega, by simp only; omega⟩ (by simp only; omega) (Am.Sub.of (by simp) (by simp [upd_eq]) fun j b hb' => ?_)
      simp only [upd_eq] at hb' ⊢
      by_cases hj : j = m + 1
      · subst hj; simpa [List.take_take, ht] using hb'
      · by_cases hj2 : j < nt
        · simpa [hj, hj2, show j ≠ id by omega, show j ≠ m by omega] using hb'
        · simp [hj, hj2] at hb'
  · refine Am.Sub.of (by simp) (by simp [upd_eq]) fun j b hb' => ?_
    simp only [upd_eq] at hb' ⊢
    by_cases hj : j = nt + 1
    · subst hj
      have e1 : bl ((eightI n).take 1) = bl [IntKind.u8.wrap (n / 72057594037927936)] := rfl
      simpa [e1] using hb'
    · by_cases hj2 : j < nt
      · simpa [hj, hj2, show j ≠ nt by omega] using hb'
      · simp [hj, hj2] at hb'
theorem rpadded (l : List Int) (b : AV) (hl : l.length ≤ 900000000000) {bk : Nat → Option Blk} {nt : Nat} (hs : Src b l bk nt nt) : PSpec Try.prog 92 [b] ⟨bk, nt⟩ (NewB (padI l) bk nt) := by
  refine PSpec.start [] 1000 Try.func92 (fn := Try.f92) rfl (by decide) mixed (by kernel_rfl) (by simp) ?_
  have hs1 := hs (upd bk nt (some ⟨bl [], true⟩)) (nt + 1) (fun i hi _ => by rw [upd_other _ _ _ _ (by omega)])
  simp (disch := omega) [ini, upd_eq, tyBytes, tyU8, build0b]
  simp (disch := omega) [upd_eq, appendA, appendB, hs1, zOkU8, HP.move, show l.length ≤ 70368744177664 by omega, show l.length ≤ 4611686018427387904 by omega]
  obtain ⟨K, hK⟩ : ∃ K, K = (16 - l.length % 16) % 16 := ⟨_, rfl⟩
  refine goT_downS (X := Nat × Nat × Nat) (fun x => K - x.1) (fun x => stH [(3, .sl x.2.1 0 1 (l.length + x.1))] ⟨fun j => if j = x.2.1 then some ⟨bl (l ++ List.replicate x.1 0), false⟩ else if j < nt then bk j else none, x.2.2⟩)
    (fun x => x.1 ≤ K ∧ nt ≤ x.2.1 ∧ x.2.1 < x.2.2) ?_ (0, nt + 1, nt + 2) ⟨by simp, by simp, by simp⟩ ?_
  · rintro ⟨i, id, m⟩ ⟨hi, hid, hm⟩ IH
    simp only at hi hid hm IH ⊢
    refine goT_round mixed 100 ?_
    by_cases hend : i = K
    · have h0 : ¬ (0 : Int) < ((l.length : Int) + (i : Int)) % 16 := by omega
      simp (disch := omega) [stH_eq, upd_eq, tyBytes, lenA, binA_rem, h0]
      have e : l ++ List.replicate i 0 = padI l := by rw [hend, hK]; rfl
      refine newB_out (j := id) (f := false) hid hm (by simp [e]) (fun i hi => by simp [hi]; omega) ?_
      rw [resRaw_tmp Try.results92, ← e]
      simp [upd_eq]
    · have h0 : (0 : Int) < ((l.length : Int) + (i : Int)) % 16 := by omega
      have hmn : m ≠ id := by omega
      simp (disch := omega) [stH_eq, upd_eq, tyBytes, lenA, binA_rem, h0, build1b]
      simp (disch := omega) [upd_eq, appendA, appendB, srcA, zOkU8, HP.move, bl_take, bl_app, show l.length + i + 1 ≤ 70368744177664 by omega, show l.length + i + 1 ≤ 4611686018427387904 by omega, Ne.symm hmn, List.take_of_length_le]
      refine IH (i + 1, m + 1, m + 2) _ ⟨by simp only; omega, by simp only; omega, by simp only; omega⟩ (by simp only; omega) (Am.Sub.of (by simp) (by simp [upd_eq]; omega) fun j b hb' => ?_)
      simp only [upd_eq] at hb' ⊢
      by_cases hj : j = m + 1
      · subst hj
        have e : l ++ List.replicate (i + 1) (0 : Int) = l ++ List.replicate i 0 ++ [0] := by rw [List.replicate_succ', List.append_assoc]
        have e2 : (l ++ List.replicate i (0 : Int)).take (l.length + i) = l ++ List.replicate i 0 := List.take_of_length_le (by simp)
        rw [e] at hb'
        simpa [e2] using hb'
      · by_cases hj2 : j < nt
        · simpa [hj, hj2, show j ≠ id by omega, show j ≠ m by omega] using hb'
        · simp [hj, hj2] at hb'
  · refine Am.Sub.of (by simp) (by simp [upd_eq]) fun j b hb' => ?_
    simp only [upd_eq] at hb' ⊢
    by_cases hj : j = nt + 1
    · subst hj; simpa using hb'
    · by_cases hj2 : j < nt
      · simpa [hj, hj2, show j ≠ nt by omega] using hb'
      · simp [hj, hj2] at hb'
end Go.Proofs.Ytgefihgogfkjoaa
