/-
  Srp14: Check, Done; sums held against one another; the chapter's small functions.
-/
import Derived.Test.YtgefihgogfkjoaaSrp13
set_option linter.unusedSimpArgs false
set_option linter.unusedVariables false
namespace Go.Proofs.Ytgefihgogfkjoaa
open Go.Am

/-! ### Sums -/
theorem eqkSum : eqK Try.prog 35 = some (List.replicate 16 (.i .u8)) := by kernel_rfl
theorem aggSum : aggT Try.prog 35 = true := by kernel_rfl
theorem kinds_bl : ∀ l : List Int, kindsOk (List.replicate l.length (.i .u8)) (bl l) = true
  | [] => rfl
  | b :: l => by
    have := kinds_bl l
    simp only [List.length_cons, List.replicate_succ, bl, List.map_cons, kindsOk, Bool.and_eq_true] at this ⊢
    exact ⟨rfl, this⟩
theorem eqCells_bl : ∀ a b : List Int, a.length = b.length → eqCells (bl a) (bl b) = some (decide (a = b))
  | [], [], _ => rfl
  | x :: a, y :: b, h => by
    have ih := eqCells_bl a b (by simpa using h)
    simp only [bl, List.map_cons, eqCells] at ih ⊢
    rw [ih]
    have e : eqCell (u8A x) (u8A y) = some (x == y) := by simp [u8A, eqCell]
    rw [e]
    simp only [Option.some.injEq]
    rw [Bool.eq_iff_iff]
    simp
theorem eqA_sum {a b : List Int} (ha : a.length = 16) (hb : b.length = 16) : eqA Try.prog 35 (bl a) (bl b) = some (decide (a = b)) := by
  have k1 := kinds_bl a
  have k2 := kinds_bl b
  rw [ha] at k1
  rw [hb] at k2
  unfold eqA
  rw [eqkSum]
  simp only [k1, k2, aggSum, and_self, if_true]
  exact eqCells_bl a b (by omega)
theorem eql_sum {a b : List Int} (ha : a.length = 16) (hb : b.length = 16) : binA Try.prog .eql 35 (smA a) (smA b) = some (.bool (decide (a = b))) := by
  simp only [binA, smA, eqA_sum ha hb]
theorem neq_sum {a b : List Int} (ha : a.length = 16) (hb : b.length = 16) : binA Try.prog .neq 35 (smA a) (smA b) = some (.bool (decide (a ≠ b))) := by
  simp only [binA, smA, eqA_sum ha hb, decide_not]

/-! ### The proof that goes back -/
def secI (key proof : List Int) : List Int := macI key [[50], proof]
@[simp] theorem secI_length (key proof : List Int) : (secI key proof).length = 16 := by simp [secI]
theorem isB_secI (key proof : List Int) : IsB (secI key proof) := isB_mac _ _
theorem view_ans {s : SD} (hs : s.ok) {bk : Nat → Option Blk} {nt id j : Nat} {f g : Bool} {w : List Int} (h0 : bk j = some ⟨sideL s, f⟩) (h1 : bk id = some ⟨[roB w, .sl j 76 1 16], g⟩) : view ⟨bk, nt⟩ (.sl id 0 1 2) = roBB [w, s.proof] := by
  have e0 : srcA 1 ⟨bk, nt⟩ (.sl id 0 1 2) = some (2, [roB w, .sl j 76 1 16]) := srcA_sl1 h1 rfl
  have e1 : srcA 1 ⟨bk, nt⟩ (.sl j 76 1 16) = some (16, bl s.proof) := by
    have hl := sideL_length hs
    have hd : (sideL s).drop 76 = bl s.proof := by
      unfold sideL
      rw [← List.append_assoc, List.drop_append, List.drop_of_length_le (by simp [hs.key]), List.nil_append]
      simp [hs.key]
    have hp := hs.proof
    simp [srcA, h0, hl, hd, List.take_of_length_le, hp]
  have hno : noRefs [roB w, AV.sl j 76 1 16] = false := by simp [noRefs, noRef]
  simp only [view, view1, e0, hno, Bool.false_eq_true, if_false]
  rw [show (3 : Nat) = 2 + 1 from rfl, Am.dv, e0]
  simp only [List.map_cons, List.map_nil, dv_roB]
  rw [show (2 : Nat) = 1 + 1 from rfl, Am.dv, e1]
  simp only [dv_bl, roBB, List.map_cons, List.map_nil, List.length_cons, List.length_nil]
  have hp := hs.proof
  simp [roB, hp]
theorem ganswer {s : SD} (hs : s.ok) : ASpec Try.prog 62 [side s] (smA (secI s.key s.proof)) := by
  refine ASpec.startX [1] 1000 Try.func62 (fn := Try.f62) rfl (by decide) mixed (by kernel_rfl) (by simp) ?_
  simp (disch := omega) [ini, upd_eq, tySide, tySum]
  refine goT_regionZ mixed [5, 6] 100 (by kernel_rfl) ?_
  simp (disch := omega) [upd_eq, tyBytes, tyBB, tySide, tySum, noRefs, noRef, frzB1, frzCvB (l := [50]) (by simp), sideL_length hs, buildBB2 (cellsA_roB _) (cellsA_sl _ _ _ _)]
  obtain ⟨T, hT, hTl⟩ : ∃ T, T = secI s.key s.proof ∧ T.length = 16 := ⟨_, rfl, by simp⟩
  rw [← hT]
  refine callT_view (r := smA T) ?_ (by simp) ?_
  · have hv1 := fun bk nt hb => view_at hs (bk := bk) (nt := nt) (id := 0) (f := true) hb (segS_key hs) hs.key
    have hv2 := fun bk nt h0 h1 => view_ans hs (bk := bk) (nt := nt) (id := 2) (j := 0) (f := true) (g := true) (w := [50]) h0 h1
    have hm := mac s.key [[50], s.proof] (by have := hs.key; omega) (few2 (a := [50]) (b := s.proof) (by simp) (by have := hs.proof; omega)).small
    rw [show macI s.key [[50], s.proof] = T from hT.symm] at hm
    simp only [List.map_cons, List.map_nil]
    rw [hv1 _ _ (by simp [upd_eq]), hv2 _ _ (by simp [upd_eq]) (by simp [upd_eq])]
    exact hm
  simp (disch := omega) [upd_eq, tySum, store_smA hTl, putSeg_bl (l := z16) (m := T) (by simp [hTl]), segA_bl hTl, resA_L Try.results62]
theorem gcheck {s : SD} (hs : s.ok) (hB : IsB s.proof) {l : List Int} (hl : IsB l) (hll : l.length ≤ 100000) : ASpec Try.prog 19 [side s, roB l] (.tup [smA (if l = s.proof then secI s.key s.proof else z16), .bool (decide (l = s.proof))]) := by
  refine ASpec.start 1000 Try.func19 (fn := Try.f19) rfl (by decide) mixed (by kernel_rfl) (by simp) ?_
  simp (disch := omega) [ini, upd_eq, tySide, tySum, sideL_length hs]
  refine callT_view (r := .bool (decide (l = s.proof))) ?_ (by simp [flat]) ?_
  · have hv1 := fun bk nt hb => view_at hs (bk := bk) (nt := nt) (id := 0) (f := true) hb (segS_proof hs) hs.proof
    simp only [List.map_cons, List.map_nil, view_roB]
    rw [hv1 _ _ (by simp [upd_eq])]
    exact same l s.proof hl hB (by omega)
  by_cases h : l = s.proof
  · have hd : decide (l = s.proof) = true := by simpa using h
    rw [hd, if_pos h]
    simp (disch := omega) [upd_eq, tySide, segS_all hs]
    refine callT_of (ganswer hs) (by simp [noRefs, noRef_side hs]) (by simp) ?_
    simp (disch := omega) [upd_eq, tySum, store_smA (secI_length _ _), putSeg_bl (l := z16) (m := secI s.key s.proof) (by simp), segA_bl (secI_length _ _), resA_L Try.results19]
  · have hd : decide (l = s.proof) = false := by simpa using h
    rw [hd, if_neg h]
    simp (disch := omega) [upd_eq, tySide, tySum, build_z16, store_smA z16_length, putSeg_bl (l := z16) (m := z16) rfl, segA_bl z16_length, resA_L Try.results19]
theorem gdone {s : SD} (hs : s.ok) {l : List Int} (hl : IsB l) (hll : l.length ≤ 100000) : ASpec Try.prog 21 [side s, roB l] (.bool (decide (l = secI s.key s.proof))) := by
  refine ASpec.start 1000 Try.func21 (fn := Try.f21) rfl (by decide) mixed (by kernel_rfl) (by simp) ?_
  simp (disch := omega) [ini, upd_eq, tySide, tySum, segS_all hs]
  refine callT_of (ganswer hs) (by simp [noRefs, noRef_side hs]) (by simp) ?_
  have hTl := secI_length s.key s.proof
  have hTB := isB_secI s.key s.proof
  generalize secI s.key s.proof = T at *
  simp (disch := omega) [upd_eq, tySum, tyBytes, store_smA hTl, hTl, putSeg_bl (l := z16) (m := T) (by simp [hTl])]
  refine callT_view (r := .bool (decide (l = T))) ?_ (by simp [flat]) ?_
  · have hv := fun bk nt hb => view_slb (bk := bk) (nt := nt) (id := 1) (f := true) (k := 16) hb hTl
    simp only [List.map_cons, List.map_nil, view_roB]
    rw [hv _ _ (by simp [upd_eq])]
    exact same l T hl hTB (by omega)
  simp (disch := omega) [upd_eq, resA_L Try.results21, view, view1, noRef]
end Go.Proofs.Ytgefihgogfkjoaa
