/-
  Srp6: u of a side.
-/
import Derived.Test.YtgefihgogfkjoaaSrp5
set_option linter.unusedSimpArgs false
set_option linter.unusedVariables false
namespace Go.Proofs.Ytgefihgogfkjoaa
open Go.Am

theorem buildN2 {bk : Nat → Option Blk} {nt : Nat} (a b : Nat) : buildSliceA Try.prog ⟨1, 24, false, [.nils], .slice 27 8 true 32⟩ ⟨bk, nt⟩ 2 [(0, num a), (1, num b)] = some (.sl nt 0 8 2, ⟨upd bk nt (some ⟨duoL a b, true⟩), nt + 1⟩) := by
  simp only [buildSliceA, tyNum]
  rfl
theorem frz_duo {bk : Nat → Option Blk} {nt id : Nat} {a b : Nat} {f : Bool} (hb : bk id = some ⟨duoL a b, f⟩) : FrzL ⟨bk, nt⟩ id [.sl id 0 8 2] [.ro 2 (duoL a b)] := by
  refine ⟨_, _, rfl, .inr (.inr (.inr ⟨0, 8, 2, duoL a b, rfl, ?_, by simp, rfl⟩)), rfl⟩
  simp [srcA, hb, List.take_of_length_le]
@[simp] theorem cell0 (c : AV) : ([c] : List AV)[0]? = some c := (rfl)
theorem sstore_sl {b id off nt i o e n : Nat} {a : Bool} {z : List AV} {td : TD} {bk : Nat → Option Blk} : storeA ⟨1, b, a, z, td⟩ ⟨bk, nt⟩ (.ptr id off) (.sl i o e n) = blkT (bk id) fun k => if off < k.cs.length then some ⟨upd bk id (some ⟨k.cs.set off (.sl i o e n), k.fix⟩), nt⟩ else none := by
  simp only [storeA, blkT]
  cases bk id <;> simp [leafOk]
/-- The blocks of 'both': the side, the answer, the list so far. -/
def BothQ (s : SD) (cs : List AV) (h : HP) : Prop := h.bk 0 = some ⟨sideL s, true⟩ ∧ h.bk 1 = some ⟨numL 0, true⟩ ∧ ∃ j f, 3 ≤ j ∧ j < h.nt ∧ h.bk 2 = some ⟨[.sl j 0 1 cs.length], true⟩ ∧ h.bk j = some ⟨cs, f⟩
theorem both {s : SD} (hs : s.ok) (hG : GOk s.gP s.gQ) : ASpec Try.prog 50 [side s] (num (uI s.gQ s.a s.b)) := by
  refine ASpec.start 1000 Try.func50 (fn := Try.f50) rfl (by decide) mixed (by kernel_rfl) (by simp) ?_
  simp (disch := omega) [ini, upd_eq, tyNum, tySide, tyBB, tyNums, buildN2]
  refine callT_own (first := []) (caps := []) (PSpec.frz 3 (frz_duo (f := true) (by simp [upd_eq])) rfl (by simp [noRef, noRefs]) (numbers_ s.a s.b)) ?_
  rintro r ⟨bk, nt⟩ hn ⟨rfl, hh⟩
  cases hh
  simp (disch := omega) [upd_eq, HP.drop]
  refine goT_rangeFunc (Q := fun _ h' => BothQ s [roB (numB s.a), roB (numB s.b)] h') (gf := 102) (caps := [.rp [.ro 2 (duoL s.a s.b)]]) (by simp [upd_eq]) (fun L hL => ?_) ?_
  · refine numbers1 s.a s.b L (Q1 := fun h' => BothQ s [roB (numB s.a)] h') (Q2 := fun h' => BothQ s [roB (numB s.a), roB (numB s.b)] h') ?_ ?_
    · rintro ⟨bk, nt⟩ hnt heq
      have h0 := heq 0 (by simp)
      have h1 := heq 1 (by simp)
      have h2 := heq 2 (by simp)
      simp only [upd_eq] at hnt h0 h1 h2
      simp at h0 h1 h2
      refine yspec_T hL (by decide) (by kernel_rfl) (by kernel_rfl) ?_
      have n2 : (2 : Nat) ≠ nt := by omega
      have n0 : (0 : Nat) ≠ nt := by omega
      have n1 : (1 : Nat) ≠ nt := by omega
      have m2 : (2 : Nat) ≠ nt + 1 := by omega
      have m0 : (0 : Nat) ≠ nt + 1 := by omega
      have m1 : (1 : Nat) ≠ nt + 1 := by omega
      simp (disch := omega) [upd_eq, ptrs, tyBB, h0, h1, h2, buildBB1 (cellsA_roB _), appendA, appendB, srcA, zOkBB, HP.add, n2, m2, sstore_sl]
      refine ⟨?_, ?_, nt + 1, false, ?_, ?_, ?_, ?_⟩ <;> simp [upd_eq, h0, h1, n0, n1, m0, m1, n2, m2] <;> omega
    · rintro ⟨bkx, ntx⟩ ⟨bk, nt⟩ hntx ⟨h0, h1, j, f, hj3, hj, h2, h3⟩ hnt heq
      simp only at h0 h1 h2 h3 hj hnt heq hntx
      have g0 := (heq 0 (by omega)).trans h0
      have g1 := (heq 1 (by omega)).trans h1
      have g2 := (heq 2 (by omega)).trans h2
      have g3 := (heq j (by omega)).trans h3
      have n2 : (2 : Nat) ≠ nt := by omega
      have n0 : (0 : Nat) ≠ nt := by omega
      have n1 : (1 : Nat) ≠ nt := by omega
      have m2 : (2 : Nat) ≠ nt + 1 := by omega
      have m0 : (0 : Nat) ≠ nt + 1 := by omega
      have m1 : (1 : Nat) ≠ nt + 1 := by omega
      have j2 : (2 : Nat) ≠ j := by omega
      have j1 : (1 : Nat) ≠ j := by omega
      have j0 : (0 : Nat) ≠ j := by omega
      have jn : j ≠ nt := by omega
      refine yspec_T hL (by decide) (by kernel_rfl) (by kernel_rfl) ?_
      simp (disch := omega) [upd_eq, ptrs, tyBB, g0, g1, g2, g3, buildBB1 (cellsA_roB _), appendA, appendB, srcA, zOkBB, HP.move, n2, m2, j2, jn, sstore_sl]
      refine ⟨?_, ?_, nt + 1, false, ?_, ?_, ?_, ?_⟩ <;> simp [upd_eq, g0, g1, g3, n0, n1, m0, m1, n2, m2, j0, j1, j2] <;> omega
  · rintro r' ⟨bk, nt⟩ hnt ⟨h0, h1, j, f, hj3, hj, h2, h3⟩
    simp only at h0 h1 h2 h3 hj
    refine goT_run mixed 100 ?_
    simp (disch := omega) [upd_eq, tySide, tyGroup, tyBB, tyNum, h0, h1, h2]
    refine callT_view (r := num (uI s.gQ s.a s.b)) ?_ (by simp) ?_
    · have hv := view_parts (bk := bk) (nt := nt) (id := j) (f := f) [numB s.a, numB s.b] h3
      have s1 := gexpo (B := s.gB) (G := s.gG) hG ⟨#[117]⟩ [numB s.a, numB s.b] _ (.inl rfl) (few3 (by decide) (by simp) (by simp))
      simp only [List.length_cons, List.length_nil, Nat.zero_add, Nat.reduceAdd] at hv
      simp only [List.map_cons, List.map_nil, view_group, view_str, hv]
      exact s1
    simp (disch := omega) [upd_eq, tyNum, h1, resA_L Try.results50]
end Go.Proofs.Ytgefihgogfkjoaa
