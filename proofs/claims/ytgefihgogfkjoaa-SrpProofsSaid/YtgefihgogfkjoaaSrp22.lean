/-
  Srp22: SrpRuns.
-/
import Derived.Test.YtgefihgogfkjoaaSrp21
set_option linter.unusedSimpArgs false
set_option linter.unusedVariables false
namespace Go.Proofs.Ytgefihgogfkjoaa
open Go.Am

theorem rec_nil {M : Mem} {b : Bool} {p : Int} {n : ByteArray} {v : Nat} {w : Value} (h : VRel M b (rec_ ⟨p, n, .nils, v⟩) w) : VRel M b (rec_ ⟨p, n, roB [], v⟩) w := by
  obtain ⟨l, rfl, h⟩ := h
  obtain ⟨v1, l1, rfl, h1, v2, l2, rfl, h2, v3, l3, rfl, h3, h4⟩ := h
  exact ⟨_, rfl, v1, _, rfl, h1, v2, _, rfl, h2, v3, _, rfl, nils_ro _ _ _ h3, h4⟩
theorem arg_rec {P : Program} {f : FuncId} {a c d r : AV} {p : Int} {n : ByteArray} {v : Nat} (h : ASpec P f [a, rec_ ⟨p, n, roB [], v⟩, c, d] r) : ASpec P f [a, rec_ ⟨p, n, .nils, v⟩, c, d] r := by
  refine ASpec.arg (fun M l hl => ?_) h
  obtain ⟨v1, l1, rfl, h1, v2, l2, rfl, h2, h3⟩ := hl
  exact ⟨v1, _, rfl, h1, v2, _, rfl, rec_nil h2, h3⟩
theorem arg_nil2 {P : Program} {f : FuncId} {a c r : AV} (h : ASpec P f [a, roB [], c] r) : ASpec P f [a, .nils, c] r := by
  refine ASpec.arg (fun M l hl => ?_) h
  obtain ⟨v1, l1, rfl, h1, v2, l2, rfl, h2, h3⟩ := hl
  exact ⟨v1, _, rfl, h1, v2, _, rfl, nils_ro _ _ _ h2, h3⟩
theorem arg_nil4 {P : Program} {f : FuncId} {a b c r : AV} (h : ASpec P f [a, b, c, roB []] r) : ASpec P f [a, b, c, .nils] r := by
  refine ASpec.arg (fun M l hl => ?_) h
  obtain ⟨v1, l1, rfl, h1, v2, l2, rfl, h2, v3, l3, rfl, h3, v4, l4, rfl, h4, h5⟩ := hl
  exact ⟨v1, _, rfl, h1, v2, _, rfl, h2, v3, _, rfl, h3, v4, _, rfl, nils_ro _ _ _ h4, h5⟩
theorem noRef_tsb (l : List Int) (e : Bool) : noRef (AV.tup [smA l, .bool e]) = true := by simp [noRef, noRefs]
theorem srpRuns (n : Int) (pass p q : List Int) : ASpec Try.prog 9 [.int .i64 n, roB pass, roB p, roB q] (.bool true) := by
  refine ASpec.start 1000 Try.func9 (fn := Try.f9) rfl (by decide) mixed (by kernel_rfl) (by simp) ?_
  have hW := W_big
  simp (disch := omega) [ini, upd_eq]
  refine callT_of known7 rfl rfl ?_
  simp (disch := omega) [upd_eq, tyStr, tyBytes, tyBB, buildBB3 (cellsA_roB _) (cellsA_roB _) (cellsA_roB _)]
  refine callT_view (r := .bool (decide (∀ l ∈ [pass, p, q], l.length ≤ 64))) ?_ (by simp [flat]) ?_
  · have hv := fun bk nt hb => view_parts (bk := bk) (nt := nt) (id := 0) (f := true) [pass, p, q] hb
    simp only [List.map_cons, List.map_nil, List.length_cons, List.length_nil, Nat.zero_add, Nat.reduceAdd] at hv
    simp only [List.map_cons, List.map_nil]
    rw [hv _ _ (by simp [upd_eq])]
    exact short _ (by simp)
  by_cases hsh : ∀ l ∈ [pass, p, q], l.length ≤ 64
  case neg =>
    rw [decide_eq_false hsh]
    simp (disch := omega) [upd_eq, resA_L Try.results9, view, view1, noRef]
  rw [decide_eq_true hsh]
  have z2 := hsh pass (by simp)
  have z4 := hsh p (by simp)
  have z5 := hsh q (by simp)
  obtain ⟨k, Q, N, hs, hk, g1⟩ := group_ n
  have hG : GOk (2 * Q + 1) Q := GOk.of hs hk
  have R1 := run (gB := k) hG ⟨#[117]⟩ pass [] p p (by decide) (by omega) (by simp) (by omega) (by omega)
  have R2 := run (gB := k) hG ⟨#[117]⟩ pass [] p q (by decide) (by omega) (by simp) (by omega) (by omega)
  generalize 2 * Q + 1 = P at *
  generalize offB P Q 4 (4 ^ xI Q (strB ⟨#[117]⟩) pass [] % P) (exW Q [[98], p]) = b1 at *
  generalize offB P Q 4 (4 ^ xI Q (strB ⟨#[117]⟩) pass [] % P) (exW Q [[98], q]) = b2 at *
  generalize 4 ^ xI Q (strB ⟨#[117]⟩) pass [] % P = V at *
  generalize 4 ^ exW Q [[97], p] % P = A at *
  generalize offS k P Q 4 ⟨#[117]⟩ [] V A (exW Q [[98], p]) = S1 at *
  generalize offS k P Q 4 ⟨#[117]⟩ [] V A (exW Q [[98], q]) = S2 at *
  generalize provS (helloS k P Q 4 ⟨#[117]⟩ pass p) pass [] b1 = D1 at *
  generalize provS (helloS k P Q 4 ⟨#[117]⟩ pass p) pass [] b2 = D2 at *
  generalize helloS k P Q 4 ⟨#[117]⟩ pass p = c at *
  obtain ⟨hv, ha, hbP1, -, s1, s2, s3, -, s4, okc, oks1, okd1, -, hproof1, hsB1⟩ := R1
  obtain ⟨-, -, hbP2, -, -, -, t3, -, t4, -, oks2, okd2, -, hproof2, hsB2⟩ := R2
  have hP := hG.lt
  have s1 := arg_nil4 s1
  have s3 := arg_rec s3
  have t3 := arg_rec t3
  have okr : leafOk (RD.salt ⟨1, ⟨#[117]⟩, .nils, V⟩) = true := rfl
  have nrr : noRef (rec_ ⟨1, ⟨#[117]⟩, .nils, V⟩) = true := noRef_rec rfl
  have hl1 := oks1.proof
  have hl2 := oks2.proof
  simp (disch := omega) [upd_eq]
  refine callT_of g1 rfl (by simp) ?_
  simp (disch := omega) [upd_eq, tyGroup]
  refine callT_of s1 (by simp [noRefs, noRef]) rfl ?_
  simp (disch := omega) [upd_eq, tyRec, tyGroup, build_rec3, store_rec okr, putR_all]
  refine callT_of s2 (by simp [noRefs, noRef]) (by simp [noRef, noRefs, noRef_side okc]) ?_
  simp (disch := omega) [upd_eq, tyRec, tyGroup, tyNum, tySide, store_side okc, putS_all side0_ok okc]
  by_cases h1 : b1 = 0
  · rw [if_pos h1] at s3
    refine callT_of s3 (by simp [noRefs, nrr]) (by simp [noRef, noRefs, noRef_side side0_ok]) ?_
    simp (disch := omega) [upd_eq, tyRec, tyGroup, tyNum, tySide, store_side side0_ok, putS_all side0_ok side0_ok]
    by_cases h2 : b2 = 0
    · rw [if_pos h2] at t3
      refine callT_of t3 (by simp [noRefs, nrr]) (by simp [noRef, noRefs, noRef_side side0_ok]) ?_
      simp (disch := omega) [upd_eq, tyNum, tySide, store_side side0_ok, putS_all side0_ok side0_ok, resA_L Try.results9, view, view1, noRef]
    · rw [if_neg h2] at t3
      refine callT_of t3 (by simp [noRefs, nrr]) (by simp [noRef, noRefs, noRef_side oks2]) ?_
      simp (disch := omega) [upd_eq, tyNum, tySide, store_side oks2, putS_all side0_ok oks2, resA_L Try.results9, view, view1, noRef]
  rw [if_neg h1] at s3
  refine callT_of s3 (by simp [noRefs, nrr]) (by simp [noRef, noRefs, noRef_side oks1]) ?_
  simp (disch := omega) [upd_eq, tyRec, tyGroup, tyNum, tySide, store_side oks1, putS_all side0_ok oks1]
  by_cases h2 : b2 = 0
  · rw [if_pos h2] at t3
    refine callT_of t3 (by simp [noRefs, nrr]) (by simp [noRef, noRefs, noRef_side side0_ok]) ?_
    simp (disch := omega) [upd_eq, tyNum, tySide, store_side side0_ok, putS_all side0_ok side0_ok, resA_L Try.results9, view, view1, noRef]
  rw [if_neg h2] at t3
  refine callT_of t3 (by simp [noRefs, nrr]) (by simp [noRef, noRefs, noRef_side oks2]) ?_
  have s4 := arg_nil2 (s4 h1)
  have t4 := arg_nil2 (t4 h2)
  rw [hproof1] at s4
  rw [hproof2] at t4
  have s5 := gcheck oks1 hsB1 hsB2 (by omega)
  have t5 := gcheck oks2 hsB2 hsB1 (by omega)
  simp (disch := omega) [upd_eq, tyRec, tyGroup, tyNum, tySide, store_side oks2, putS_all side0_ok oks2, segS_all okc]
  refine callT_of s4 (by simp [noRefs, noRef, noRef_side okc]) (by simp [noRef, noRefs, noRef_side okd1]) ?_
  simp (disch := omega) [upd_eq, tyNum, tySide, tySum, store_side okd1, putS_all side0_ok okd1, segS_all okc, store_smA hl1, putSeg_bl (l := z16) (m := S1.proof) (by simp [hl1])]
  refine callT_of t4 (by simp [noRefs, noRef, noRef_side okc]) (by simp [noRef, noRefs, noRef_side okd2]) ?_
  simp (disch := omega) [upd_eq, tyNum, tySide, tySum, store_side okd2, putS_all side0_ok okd2, segS_all oks1, store_smA hl2, putSeg_bl (l := z16) (m := S2.proof) (by simp [hl2]), segA_bl hl2]
  refine callT_of (rbytesS S2.proof hl2) (by simp [noRefs]) rfl ?_
  simp (disch := omega) [upd_eq]
  have q12 := eql_sum hl1 hl2
  have hsym : decide (S2.proof = S1.proof) = decide (S1.proof = S2.proof) := by rw [Bool.eq_iff_iff]; simp only [decide_eq_true_eq]; exact eq_comm
  rw [hsym] at s5
  generalize decide (S1.proof = S2.proof) = e at s5 t5 q12
  have q11 := eql_sum hl1 hl1
  have q22 := eql_sum hl2 hl2
  rw [decide_eq_true rfl] at q11 q22
  have hc1 : (if S2.proof = S1.proof then secI S1.key S1.proof else z16).length = 16 := by split <;> simp
  have hc2 : (if S1.proof = S2.proof then secI S2.key S2.proof else z16).length = 16 := by split <;> simp
  generalize (if S2.proof = S1.proof then secI S1.key S1.proof else z16) = C1 at *
  generalize (if S1.proof = S2.proof then secI S2.key S2.proof else z16) = C2 at *
  refine callT_of s5 (by simp [noRefs, noRef_side oks1]) (noRef_tsb _ _) ?_
  simp (disch := omega) [upd_eq, tySum, tySide, store_smA hc1, putSeg_bl (l := z16) (m := C1) (by simp [hc1]), segS_all oks2, segA_bl hl1]
  refine callT_of (rbytesS S1.proof hl1) (by simp [noRefs]) rfl ?_
  simp (disch := omega) [upd_eq]
  refine callT_of t5 (by simp [noRefs, noRef_side oks2]) (noRef_tsb _ _) ?_
  simp (disch := omega) [upd_eq, tySum, tySide, store_smA hc2, putSeg_bl (l := z16) (m := C2) (by simp [hc2]), segA_bl hl1, segA_bl hl2, q12]
  cases e
  · simp (disch := omega) [upd_eq, tySum, tySide, segS_proof oks1, segS_proof oks2, segA_bl hl1, segA_bl hl2, q11, q12, q22, isBool, resA_L Try.results9, view, view1, noRef]
  · simp (disch := omega) [upd_eq, tySum, tySide, segS_proof oks1, segS_proof oks2, segA_bl hl1, segA_bl hl2, q11, q12, q22, isBool, resA_L Try.results9, view, view1, noRef]
theorem law_SrpRuns (n : Int) (f1 : Nat → Nat) (h1 : ∀ i, f1 i < 256) (n1 : Nat) (f2 : Nat → Nat) (h2 : ∀ i, f2 i < 256) (n2 : Nat) (f3 : Nat → Nat) (h3 : ∀ i, f3 i < 256) (n3 : Nat) :
    ASpec Try.prog 9 [.int .i64 n, .ro n1 (famL (u8F f1) n1), .ro n2 (famL (u8F f2) n2), .ro n3 (famL (u8F f3) n3)] (.bool true) := by
  rw [fl_ro, fl_ro, fl_ro]
  exact srpRuns n _ _ _
end Go.Proofs.Ytgefihgogfkjoaa
