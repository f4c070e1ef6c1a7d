/-
  Srp24: SrpSecrets.
-/
import Derived.Test.YtgefihgogfkjoaaSrp23
set_option linter.unusedSimpArgs false
set_option linter.unusedVariables false
namespace Go.Proofs.Ytgefihgogfkjoaa
open Go.Am

theorem convB_3 {x y z : Int} {f : Bool} {h : HP} : convB (some ⟨bl [x, y, z], f⟩) 3 h = some (roB [x, y, z], h) := by
  simp [convB, roB, bl, u8A, isU8]
theorem srpSecrets (n : Int) (pass salt p q : List Int) : ASpec Try.prog 7 [.int .i64 n, roB pass, roB salt, roB p, roB q] (.bool true) := by
  refine ASpec.startX [11, 14] 1000 Try.func7 (fn := Try.f7) rfl (by decide) mixed (by kernel_rfl) (by simp) ?_
  have hW := W_big
  simp (disch := omega) [ini, upd_eq]
  refine callT_of known7 rfl rfl ?_
  simp (disch := omega) [upd_eq, tyStr, tyBytes, tyBB, buildBB4 (cellsA_roB _) (cellsA_roB _) (cellsA_roB _) (cellsA_roB _)]
  refine callT_view (r := .bool (decide (∀ l ∈ [pass, salt, p, q], l.length ≤ 64))) ?_ (by simp [flat]) ?_
  · have hv := fun bk nt hb => view_parts (bk := bk) (nt := nt) (id := 0) (f := true) [pass, salt, p, q] hb
    simp only [List.map_cons, List.map_nil, List.length_cons, List.length_nil, Nat.zero_add, Nat.reduceAdd] at hv
    simp only [List.map_cons, List.map_nil]
    rw [hv _ _ (by simp [upd_eq])]
    exact short _ (by simp)
  by_cases hsh : ∀ l ∈ [pass, salt, p, q], l.length ≤ 64
  case neg =>
    rw [decide_eq_false hsh]
    simp (disch := omega) [upd_eq, resA_L Try.results7, view, view1, noRef]
  rw [decide_eq_true hsh]
  have z2 := hsh pass (by simp)
  have z3 := hsh salt (by simp)
  have z4 := hsh p (by simp)
  have z5 := hsh q (by simp)
  obtain ⟨k, Q, N, hs, hk, g1⟩ := group_ n
  have hG : GOk (2 * Q + 1) Q := GOk.of hs hk
  have hlow := hG.low
  have R := run (gB := k) hG ⟨#[117]⟩ pass salt p q (by decide) (by omega) (by omega) (by omega) (by omega)
  have ra := rexpo (B := k) (G := 4) hG [[97], p] (few2 (by simp) (by omega)) (by simp)
  have rb := rexpo (B := k) (G := 4) hG [[98], q] (few2 (by simp) (by omega)) (by simp)
  have ea := exW_range (Q := Q) [[97], p] (by omega)
  have eb := exW_range (Q := Q) [[98], q] (by omega)
  have hP := hG.lt
  have h2P : 2 ≤ 2 * Q + 1 := by omega
  have hPQ : Q < 2 * Q + 1 := by omega
  have k1 := rraise (B := k) (P := 2 * Q + 1) (Q := Q) (G := 4) (a := 4) (e := exW Q [[97], p]) (by omega) (by omega) hP h2P
  obtain ⟨c, hc⟩ : ∃ c, c = helloS k (2 * Q + 1) Q 4 ⟨#[117]⟩ pass p := ⟨_, rfl⟩
  obtain ⟨S, hS⟩ : ∃ S, S = offS k (2 * Q + 1) Q 4 ⟨#[117]⟩ salt (4 ^ xI Q (strB ⟨#[117]⟩) pass salt % (2 * Q + 1)) (4 ^ exW Q [[97], p] % (2 * Q + 1)) (exW Q [[98], q]) := ⟨_, rfl⟩
  have c1 : c.own = exW Q [[97], p] := by rw [hc]; rfl
  have S1 : S.own = exW Q [[98], q] := by rw [hS]; rfl
  have S2 : S.key = keyI (offK (2 * Q + 1) Q 4 (4 ^ xI Q (strB ⟨#[117]⟩) pass salt % (2 * Q + 1)) (4 ^ exW Q [[97], p] % (2 * Q + 1)) (exW Q [[98], q])) := by rw [hS]; rfl
  unfold offK at S2
  rw [← hc, ← hS] at R
  clear hc hS
  generalize 2 * Q + 1 = P at *
  generalize offB P Q 4 (4 ^ xI Q (strB ⟨#[117]⟩) pass salt % P) (exW Q [[98], q]) = b at *
  generalize 4 ^ xI Q (strB ⟨#[117]⟩) pass salt % P = V at *
  generalize 4 ^ exW Q [[97], p] % P = A at *
  generalize provS c pass salt b = D at *
  generalize exW Q [[97], p] = ca at *
  generalize exW Q [[98], q] = sb at *
  obtain ⟨hv, ha, hbP, s1, -, s2, s3, -, -, okc, oks, -, -, -, hsB⟩ := R
  have hP0 : 0 < P := by omega
  have haP := ha.2.1
  have hvP := hv.2.1
  have okr : leafOk (RD.salt ⟨1, ⟨#[117]⟩, roB salt, V⟩) = true := rfl
  have nrr : noRef (rec_ ⟨1, ⟨#[117]⟩, roB salt, V⟩) = true := noRef_rec rfl
  simp (disch := omega) [upd_eq]
  refine callT_of g1 rfl (by simp) ?_
  simp (disch := omega) [upd_eq, tyGroup]
  refine callT_of s1 (by simp [noRefs, noRef]) rfl ?_
  simp (disch := omega) [upd_eq, tyGroup, tyNum]
  refine callT_of s2 (by simp [noRefs, noRef]) (noRef_t2n okc _) ?_
  simp (disch := omega) [upd_eq, tyRec, tyGroup, tyNum, tySide, store_side okc, putS_all side0_ok okc, build_rec (cellsA_roB _)]
  by_cases h0 : b = 0
  · rw [if_pos h0] at s3
    refine callT_of s3 (by simp [noRefs, nrr]) (noRef_t3n side0_ok _ _) ?_
    simp (disch := omega) [upd_eq, tyNum, tySide, store_side side0_ok, putS_all side0_ok side0_ok, resA_L Try.results7, view, view1, noRef]
  rw [if_neg h0] at s3
  refine callT_of s3 (by simp [noRefs, nrr]) (noRef_t3n oks _ _) ?_
  simp (disch := omega) [upd_eq, tyGroup, tyNum, tySide, store_side oks, putS_all side0_ok oks]
  refine goT_regionZ mixed [57, 58, 63] 100 (by kernel_rfl) ?_
  simp (disch := omega) [upd_eq, tyBytes, tyBB, tyNum, tyGroup, noRefs, noRef, frzB1, frzCvB (l := [117]) (by simp)]
  refine callT_of (rbytesB A) rfl rfl ?_
  simp (disch := omega) [upd_eq, tyNum]
  refine callT_of (rbytesB b) rfl rfl ?_
  simp (disch := omega) [upd_eq, tyBB, noRefs, noRef, frzBB3]
  have ru_ : ASpec Try.prog 33 [group k P Q 4, roBB [[117], numB A, numB b]] (num (uI Q A b)) := rexpo hG [[117], numB A, numB b] (few3 (by simp) (by simp) (by simp)) (by simp)
  refine callT_of ru_ (by simp [noRefs]) rfl ?_
  have hu := uI_lt (Q := Q) (by omega) A b
  generalize uI Q A b = U at *
  simp (disch := omega) [upd_eq, tyNum, tyGroup]
  have k2 := rraise (B := k) (P := P) (Q := Q) (G := 4) (a := V) (e := U) (by omega) (by omega) hP h2P
  have m2 := Nat.mod_lt (V ^ U) hP0
  generalize V ^ U % P = M2 at *
  refine callT_of k2 (by simp [noRefs]) rfl ?_
  simp (disch := omega) [upd_eq]
  have k3 := rtimes (B := k) (P := P) (Q := Q) (G := 4) (a := A) (b := M2) (by omega) (by omega) hP hP0
  have m3 := Nat.mod_lt (A * M2) hP0
  generalize A * M2 % P = M3 at *
  refine callT_of k3 (by simp [noRefs]) rfl ?_
  simp (disch := omega) [upd_eq, tyNum, tySide, S1]
  have k4 := rraise (B := k) (P := P) (Q := Q) (G := 4) (a := M3) (e := sb) (by omega) (by omega) hP h2P
  generalize M3 ^ sb % P = M4 at *
  refine callT_of k4 (by simp [noRefs]) rfl ?_
  simp (disch := omega) [upd_eq, tyNum, tyBytes, tyBB, build3b, convOwn_sl]
  rw [convB_3]
  simp (disch := omega) [upd_eq, tyNum]
  refine callT_of (rbytesB M4) rfl rfl ?_
  simp (disch := omega) [upd_eq, tyBB, buildBB2 (cellsA_roB _) (cellsA_roB _)]
  obtain ⟨K, hK, hKl⟩ : ∃ K, K = keyI M4 ∧ K.length = 16 := ⟨_, rfl, by simp⟩
  rw [← hK] at S2
  have rk_ := rof _ (few2 (a := [107, 101, 121]) (b := numB M4) (by simp) (by simp)).short (by simp)
  rw [show macI [] [[107, 101, 121], numB M4] = K from hK.symm] at rk_
  refine callT_view (r := smA K) ?_ (by simp) ?_
  · have hv := fun bk nt id f hb => view_parts (bk := bk) (nt := nt) (id := id) (f := f) [[107, 101, 121], numB M4] hb
    simp only [List.map_cons, List.map_nil, List.length_cons, List.length_nil, Nat.zero_add, Nat.reduceAdd] at hv
    simp only [List.map_cons, List.map_nil]
    rw [hv _ _ _ _ (upd_same _ _ _)]
    exact rk_
  simp (disch := omega) [upd_eq, tySum, tyNum, store_smA hKl, putSeg_bl (l := z16) (m := K) (by simp [hKl])]
  refine goT_regionZ mixed [94, 95, 97, 105, 106, 108] 100 (by kernel_rfl) ?_
  have haW : A < W := by omega
  have hcW : c.own < W := by omega
  have hsW : S.own < W := by omega
  rw [c1] at hcW
  rw [S1] at hsW
  have hh := rhas (B := k) (P := P) (Q := Q) (G := 4) (a := V) (by omega) (by omega) hP h2P
  simp (disch := omega) [upd_eq, tyNum, tyGroup, tySide, c1]
  refine callT_of k1 (by simp [noRefs]) rfl ?_
  simp (disch := omega) [upd_eq, tyBytes, tyBB, tyNum, tyGroup, tySide, noRefs, noRef, frzB1, frzCvB (l := [97]) (by simp), frzBB2, eql_num haW haW, c1]
  refine callT_of ra (by simp [noRefs]) rfl ?_
  simp (disch := omega) [upd_eq, tyBytes, tyBB, tyNum, tyGroup, tySide, noRefs, noRef, frzB1, frzCvB (l := [98]) (by simp), frzBB2, eql_num hcW hcW, S1]
  refine callT_of rb (by simp [noRefs]) rfl ?_
  simp (disch := omega) [upd_eq, tyNum, tyGroup, tySide, tySum, eql_num hsW hsW, segS_key oks, S2, segA_bl hKl, eql_sum hKl hKl]
  refine callT_of hh (by simp [noRefs]) rfl ?_
  simp (disch := omega) [upd_eq, hv, resA_L Try.results7, view, view1, noRef]
theorem law_SrpSecrets (n : Int) (f1 : Nat → Nat) (h1 : ∀ i, f1 i < 256) (n1 : Nat) (f2 : Nat → Nat) (h2 : ∀ i, f2 i < 256) (n2 : Nat) (f3 : Nat → Nat) (h3 : ∀ i, f3 i < 256) (n3 : Nat) (f4 : Nat → Nat) (h4 : ∀ i, f4 i < 256) (n4 : Nat) :
    ASpec Try.prog 7 [.int .i64 n, .ro n1 (famL (u8F f1) n1), .ro n2 (famL (u8F f2) n2), .ro n3 (famL (u8F f3) n3), .ro n4 (famL (u8F f4) n4)] (.bool true) := by
  rw [fl_ro, fl_ro, fl_ro, fl_ro]
  exact srpSecrets n _ _ _ _
end Go.Proofs.Ytgefihgogfkjoaa
