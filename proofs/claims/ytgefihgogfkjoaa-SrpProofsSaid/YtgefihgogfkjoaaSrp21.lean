/-
  Srp21: SrpKeys.
-/
import Derived.Test.YtgefihgogfkjoaaSrp20
set_option linter.unusedSimpArgs false
set_option linter.unusedVariables false
namespace Go.Proofs.Ytgefihgogfkjoaa
open Go.Am

/-- bytes by their numbers -/
def fl (f : Nat → Nat) (n : Nat) : List Int := (List.range n).map fun i => (f i : Int)
@[simp] theorem fl_length (f : Nat → Nat) (n : Nat) : (fl f n).length = n := by simp [fl]
theorem fl_ro (f : Nat → Nat) (n : Nat) : AV.ro n (famL (u8F f) n) = roB (fl f n) := by
  unfold roB fl famL bl
  rw [List.length_map, List.length_range, List.map_map]
  rfl
theorem isB_fl {f : Nat → Nat} (h : ∀ i, f i < 256) (n : Nat) : IsB (fl f n) := by
  intro b hb
  simp only [fl, List.mem_map] at hb
  obtain ⟨i, _, rfl⟩ := hb
  have := h i
  omega
theorem isBoolB : isBoolT Try.prog 4 = true := by kernel_rfl
theorem srpKeys (n : Int) (name : ByteArray) (pass salt p q : List Int) : ASpec Try.prog 3 [.int .i64 n, .str name, roB pass, roB salt, roB p, roB q] (.bool true) := by
  refine ASpec.start 1000 Try.func3 (fn := Try.f3) rfl (by decide) mixed (by kernel_rfl) (by simp) ?_
  have hW := W_big
  simp (disch := omega) [ini, upd_eq]
  refine callT_of known7 rfl rfl ?_
  simp (disch := omega) [upd_eq, tyStr, tyBytes, tyBB, convOwn_diff, conv_strB, buildBB5 (cellsA_roB _) (cellsA_roB _) (cellsA_roB _) (cellsA_roB _) (cellsA_roB _)]
  refine callT_view (r := .bool (decide (∀ l ∈ [strB name, pass, salt, p, q], l.length ≤ 64))) ?_ (by simp [flat]) ?_
  · have hv := fun bk nt hb => view_parts (bk := bk) (nt := nt) (id := 0) (f := true) [strB name, pass, salt, p, q] hb
    simp only [List.map_cons, List.map_nil, List.length_cons, List.length_nil, Nat.zero_add, Nat.reduceAdd] at hv
    simp only [List.map_cons, List.map_nil]
    rw [hv _ _ (by simp [upd_eq])]
    exact short _ (by simp)
  by_cases hsh : ∀ l ∈ [strB name, pass, salt, p, q], l.length ≤ 64
  case neg =>
    rw [decide_eq_false hsh]
    simp (disch := omega) [upd_eq, resA_L Try.results3, view, view1, noRef]
  rw [decide_eq_true hsh]
  have z1 := hsh (strB name) (by simp)
  have z2 := hsh pass (by simp)
  have z3 := hsh salt (by simp)
  have z4 := hsh p (by simp)
  have z5 := hsh q (by simp)
  rw [strB_length] at z1
  obtain ⟨k, Q, N, hs, hk, g1⟩ := group_ n
  have hG : GOk (2 * Q + 1) Q := GOk.of hs hk
  have R := run (gB := k) hG name pass salt p q (by omega) (by omega) (by omega) (by omega) (by omega)
  generalize 2 * Q + 1 = P at *
  generalize offB P Q 4 (4 ^ xI Q (strB name) pass salt % P) (exW Q [[98], q]) = b at *
  generalize 4 ^ xI Q (strB name) pass salt % P = V at *
  generalize 4 ^ exW Q [[97], p] % P = A at *
  generalize offS k P Q 4 name salt V A (exW Q [[98], q]) = S at *
  generalize provS (helloS k P Q 4 name pass p) pass salt b = D at *
  generalize helloS k P Q 4 name pass p = c at *
  obtain ⟨hv, ha, hbP, s1, -, s2, s3, s3', s4, okc, oks, okd, hkey, hproof, hsB⟩ := R
  have hP := hG.lt
  have hbW : b < W := by omega
  have okr : leafOk (RD.salt ⟨1, name, roB salt, V⟩) = true := rfl
  have nrr : noRef (rec_ ⟨1, name, roB salt, V⟩) = true := noRef_rec rfl
  simp (disch := omega) [upd_eq]
  refine callT_of g1 rfl (by simp) ?_
  simp (disch := omega) [upd_eq, tyGroup]
  refine callT_of s1 (by simp [noRefs, noRef]) rfl ?_
  simp (disch := omega) [upd_eq, tyRec, tyGroup, build_rec (cellsA_roB _), store_rec okr, putR_all]
  refine callT_of s2 (by simp [noRefs, noRef]) (by simp [noRef, noRefs, noRef_side okc]) ?_
  simp (disch := omega) [upd_eq, tyRec, tyGroup, tyNum, tySide, store_side okc, putS_all side0_ok okc]
  by_cases h0 : b = 0
  · rw [if_pos h0] at s3 s3'
    refine callT_of s3 (by simp [noRefs, nrr]) (by simp [noRef, noRefs, noRef_side side0_ok]) ?_
    simp (disch := omega) [upd_eq, tyRec, tyGroup, tyNum, tySide, tyRSide, store_side side0_ok, putS_all side0_ok side0_ok]
    refine callT_of s3' (by simp [noRefs, nrr]) (by simp [noRef, noRefs, noRef_side side0_ok]) ?_
    simp (disch := omega) [upd_eq, tyNum, tyRSide, store_side side0_ok, putS_all side0_ok side0_ok, isBoolB, eql_num, neq_num, resA_L Try.results3, view, view1, noRef]
  rw [if_neg h0] at s3 s3'
  have s4 := s4 h0
  have s5 := gcheck oks hsB hsB (by have := oks.proof; omega)
  rw [if_pos rfl, decide_eq_true rfl] at s5
  have s6 := gdone okd (l := secI D.key D.proof) (isB_secI _ _) (by simp)
  rw [decide_eq_true rfl] at s6
  rw [hproof] at s4
  rw [hkey, hproof] at s6
  have hsl := oks.proof
  have hkl := oks.key
  refine callT_of s3 (by simp [noRefs, nrr]) (by simp [noRef, noRefs, noRef_side oks]) ?_
  simp (disch := omega) [upd_eq, tyRec, tyGroup, tyNum, tySide, tyRSide, store_side oks, putS_all side0_ok oks]
  refine callT_of s3' (by simp [noRefs, nrr]) (by simp [noRef, noRefs, noRef_side oks]) ?_
  simp (disch := omega) [upd_eq, tyNum, tySide, tyRSide, store_side oks, putS_all side0_ok oks, segS_all okc, isBoolB, eql_num, neq_num]
  refine callT_of s4 (by simp [noRefs, noRef_side okc]) (by simp [noRef, noRefs, noRef_side okd]) ?_
  simp (disch := omega) [upd_eq, tySum, tyNum, tySide, store_side okd, putS_all side0_ok okd, segS_all oks, store_smA hsl, putSeg_bl (l := z16) (m := S.proof) (by simp [hsl]), segA_bl hsl]
  refine callT_of (rbytesS S.proof hsl) (by simp [noRefs]) rfl ?_
  simp (disch := omega) [upd_eq]
  refine callT_of s5 (by simp [noRefs, noRef_side oks]) (by simp [noRef, noRefs]) ?_
  simp (disch := omega) [upd_eq, tySum, tySide, store_smA (secI_length _ _), putSeg_bl (l := z16) (m := secI S.key S.proof) (by simp), segS_all okd, segA_bl (secI_length _ _)]
  refine callT_of (rbytesS (secI S.key S.proof) (by simp)) (by simp [noRefs]) rfl ?_
  simp (disch := omega) [upd_eq]
  refine callT_of s6 (by simp [noRefs, noRef_side okd]) rfl ?_
  simp (disch := omega) [upd_eq, tySum, tySide, segS_key okd, segS_key oks, segS_proof okd, segS_proof oks, hkey, hproof, eql_sum hkl hkl, eql_sum hsl hsl, segA_bl hsl, resA_L Try.results3, view, view1, noRef]
theorem law_SrpKeys (n : Int) (name : ByteArray) (hn : name.size ≤ maxLen) (f1 : Nat → Nat) (h1 : ∀ i, f1 i < 256) (n1 : Nat) (f2 : Nat → Nat) (h2 : ∀ i, f2 i < 256) (n2 : Nat) (f3 : Nat → Nat) (h3 : ∀ i, f3 i < 256) (n3 : Nat) (f4 : Nat → Nat) (h4 : ∀ i, f4 i < 256) (n4 : Nat) :
    ASpec Try.prog 3 [.int .i64 n, .str name, .ro n1 (famL (u8F f1) n1), .ro n2 (famL (u8F f2) n2), .ro n3 (famL (u8F f3) n3), .ro n4 (famL (u8F f4) n4)] (.bool true) := by
  rw [fl_ro, fl_ro, fl_ro, fl_ro]
  exact srpKeys n name _ _ _ _
end Go.Proofs.Ytgefihgogfkjoaa
