/-
  Srp28: SrpOwn.
-/
import Derived.Test.YtgefihgogfkjoaaSrp27
set_option linter.unusedSimpArgs false
set_option linter.unusedVariables false
namespace Go.Proofs.Ytgefihgogfkjoaa
open Go.Am

theorem same_c {gB : Int} {P Q : Nat} (hG : GOk P Q) (name : ByteArray) (pass p : List Int) : ASpec Try.prog 38 [side (helloS gB P Q 4 name pass p), side (helloS gB P Q 4 name pass p)] (.bool true) := by
  have hW := W_big
  have h1 := hG.lt
  have h2 := hG.two
  have h3 := hG.low
  have h4 := exW_range (Q := Q) [[97], p] (by omega)
  refine rsame (helloS_ok _ _ _ _ _ _ _) (.inl ⟨pass, rfl⟩) (.inr rfl) ?_ ?_ ?_ ?_
  · have : 4 ^ exW Q [[97], p] % P < P := Nat.mod_lt _ (by omega)
    exact Nat.lt_trans this (by omega)
  · exact Nat.lt_of_lt_of_le (Nat.succ_pos 18446744073709551615) (Nat.le_of_lt hW)
  · exact Nat.lt_trans (show exW Q [[97], p] < Q by omega) (by omega)
  · exact Nat.lt_of_lt_of_le (Nat.succ_pos 18446744073709551615) (Nat.le_of_lt hW)
theorem same_s {gB : Int} {P Q : Nat} (hG : GOk P Q) (name : ByteArray) (salt : List Int) {v a own : Nat} (hv : v < P) (ha : a < P) (ho : own < Q) : ASpec Try.prog 38 [side (offS gB P Q 4 name salt v a own), side (offS gB P Q 4 name salt v a own)] (.bool true) := by
  have hW := W_big
  have h1 := hG.lt
  have h2 := hG.two
  refine rsame (keyedS_ok (offI_ok _ _ _ _ _ _ _ _ _) _ _) (.inr rfl) (.inl ⟨salt, rfl⟩) ?_ ?_ ?_ ?_
  · exact Nat.lt_trans ha (by omega)
  · have : offB P Q 4 v own < P := Nat.mod_lt _ (by omega)
    exact Nat.lt_trans this (by omega)
  · exact Nat.lt_trans ho (by omega)
  · exact Nat.lt_trans hv (by omega)
theorem same_d {gB : Int} {P Q : Nat} (hG : GOk P Q) (name : ByteArray) (pass p salt : List Int) {b : Nat} (hb : b < P) : ASpec Try.prog 38 [side (provS (helloS gB P Q 4 name pass p) pass salt b), side (provS (helloS gB P Q 4 name pass p) pass salt b)] (.bool true) := by
  have hW := W_big
  have h1 := hG.lt
  have h2 := hG.two
  have h3 := hG.low
  have h4 := exW_range (Q := Q) [[97], p] (by omega)
  refine rsame (keyedS_ok ⟨rfl, rfl, rfl, rfl, rfl, rfl⟩ _ _) (.inl ⟨pass, rfl⟩) (.inl ⟨salt, rfl⟩) ?_ ?_ ?_ ?_
  · have : 4 ^ exW Q [[97], p] % P < P := Nat.mod_lt _ (by omega)
    exact Nat.lt_trans this (by omega)
  · exact Nat.lt_trans hb (by omega)
  · exact Nat.lt_trans (show exW Q [[97], p] < Q by omega) (by omega)
  · exact Nat.lt_of_lt_of_le (Nat.succ_pos 18446744073709551615) (Nat.le_of_lt hW)
theorem same_0 : ASpec Try.prog 38 [side side0, side side0] (.bool true) := by
  have h0 : 0 < W := Nat.lt_of_lt_of_le (Nat.succ_pos 18446744073709551615) (Nat.le_of_lt W_big)
  exact rsame side0_ok (.inr rfl) (.inr rfl) h0 h0 h0 h0
theorem cells_pass {s : SD} (h : (∃ l, s.pass = roB l) ∨ s.pass = .nils) : cellsA s.pass = some [s.pass] := by
  rcases h with ⟨l, h⟩ | h
  · rw [h]; exact cellsA_roB _
  · rw [h]; rfl
theorem cells_salt {s : SD} (h : (∃ l, s.salt = roB l) ∨ s.salt = .nils) : cellsA s.salt = some [s.salt] := by
  rcases h with ⟨l, h⟩ | h
  · rw [h]; exact cellsA_roB _
  · rw [h]; rfl
theorem srpOwn (n : Int) (pass salt p : List Int) : ASpec Try.prog 10 [.int .i64 n, roB pass, roB salt, roB p] (.bool true) := by
  refine ASpec.start 17 Try.func10 (fn := Try.f10) rfl (by decide) mixed (by kernel_rfl) (by simp) ?_
  have hW := W_big
  simp (disch := omega) [ini, upd_eq]
  refine callT_of known7 rfl rfl ?_
  simp (disch := omega) [upd_eq, tyStr, tyBytes, tyBB, buildBB3 (cellsA_roB _) (cellsA_roB _) (cellsA_roB _)]
  refine callT_view (r := .bool (decide (∀ l ∈ [pass, salt, p], l.length ≤ 64))) ?_ (by simp [flat]) ?_
  · have hv := fun bk nt hb => view_parts (bk := bk) (nt := nt) (id := 0) (f := true) [pass, salt, p] hb
    simp only [List.map_cons, List.map_nil, List.length_cons, List.length_nil, Nat.zero_add, Nat.reduceAdd] at hv
    simp only [List.map_cons, List.map_nil]
    rw [hv _ _ (by simp [upd_eq])]
    exact short _ (by simp)
  by_cases hsh : ∀ l ∈ [pass, salt, p], l.length ≤ 64
  case neg =>
    rw [decide_eq_false hsh]
    simp (disch := omega) [upd_eq, resA_L Try.results10, view, view1, noRef]
  rw [decide_eq_true hsh]
  have z2 := hsh pass (by simp)
  have z3 := hsh salt (by simp)
  have z4 := hsh p (by simp)
  obtain ⟨k, Q, N, hs, hk, g1⟩ := group_ n
  simp (disch := omega) [upd_eq]
  refine callT_of g1 rfl (by simp) ?_
  simp (disch := omega) [upd_eq, tyGroup, tyBytes, build0b, appendA, appendB, srcA_roB, zOkU8, HP.move, show pass.length ≤ 70368744177664 by omega, show pass.length ≤ 4611686018427387904 by omega, show salt.length ≤ 70368744177664 by omega, show salt.length ≤ 4611686018427387904 by omega]
  refine goT_frz1 (L := [(1, roB pass), (2, roB salt), (3, roB p), (9, .ptr 1 0), (10, roB pass), (11, .sl 5 0 1 salt.length)]) (B := [(1, ⟨groupL k (2 * Q + 1) Q 4, true⟩), (5, ⟨bl salt, false⟩)]) 3 (by simp) ?_ ?_ ?_
  · intro q hq
    simp only [List.mem_cons, List.not_mem_nil, or_false] at hq
    rcases hq with rfl | rfl | rfl | rfl | rfl | rfl
    · exact .inl (by simp [upd_eq])
    · exact .inl (by simp [upd_eq])
    · exact .inl (by simp [upd_eq])
    · exact .inl (by simp [upd_eq])
    · exact frz_roB (f := false) (by simp [upd_eq])
    · exact .inl (by simp [upd_eq])
  · intro q hq
    simp only [List.mem_cons, List.not_mem_nil, or_false] at hq
    rcases hq with rfl | rfl
    · exact ⟨_, by simp [upd_eq], rfl, frzL_refl _⟩
    · exact ⟨_, by simp [upd_eq], rfl, frzL_refl _⟩
  rw [st_eq]
  refine goT_frz1 (L := [(1, roB pass), (2, roB salt), (3, roB p), (9, .ptr 1 0), (10, roB pass), (11, roB salt)]) (B := [(1, ⟨groupL k (2 * Q + 1) Q 4, true⟩)]) 5 (by simp) ?_ ?_ ?_
  · intro q hq
    simp only [List.mem_cons, List.not_mem_nil, or_false] at hq
    rcases hq with rfl | rfl | rfl | rfl | rfl | rfl
    · exact .inl (by simp)
    · exact .inl (by simp)
    · exact .inl (by simp)
    · exact .inl (by simp)
    · exact .inl (by simp)
    · exact frz_roB (f := false) (by simp)
  · intro q hq
    simp only [List.mem_cons, List.not_mem_nil, or_false] at hq
    subst hq
    exact ⟨_, by simp, rfl, frzL_refl _⟩
  rw [st_eq]
  refine goT_run mixed 900 ?_
  have hG : GOk (2 * Q + 1) Q := GOk.of hs hk
  have R := run (gB := k) hG ⟨#[117]⟩ pass salt p p (by decide) (by omega) (by omega) (by omega) (by omega)
  obtain ⟨m1, m2, m3⟩ : ASpec Try.prog 38 [side (helloS k (2 * Q + 1) Q 4 ⟨#[117]⟩ pass p), side (helloS k (2 * Q + 1) Q 4 ⟨#[117]⟩ pass p)] (.bool true) ∧ ASpec Try.prog 38 [side (offS k (2 * Q + 1) Q 4 ⟨#[117]⟩ salt (4 ^ xI Q (strB ⟨#[117]⟩) pass salt % (2 * Q + 1)) (4 ^ exW Q [[97], p] % (2 * Q + 1)) (exW Q [[98], p])), side (offS k (2 * Q + 1) Q 4 ⟨#[117]⟩ salt (4 ^ xI Q (strB ⟨#[117]⟩) pass salt % (2 * Q + 1)) (4 ^ exW Q [[97], p] % (2 * Q + 1)) (exW Q [[98], p]))] (.bool true) ∧
      ASpec Try.prog 38 [side (provS (helloS k (2 * Q + 1) Q 4 ⟨#[117]⟩ pass p) pass salt (offB (2 * Q + 1) Q 4 (4 ^ xI Q (strB ⟨#[117]⟩) pass salt % (2 * Q + 1)) (exW Q [[98], p]))), side (provS (helloS k (2 * Q + 1) Q 4 ⟨#[117]⟩ pass p) pass salt (offB (2 * Q + 1) Q 4 (4 ^ xI Q (strB ⟨#[117]⟩) pass salt % (2 * Q + 1)) (exW Q [[98], p])))] (.bool true) := by
    have h4 := exW_range (Q := Q) [[98], p] (by have := hG.low; omega)
    exact ⟨same_c hG _ _ _, same_s hG _ _ (Nat.mod_lt _ (by omega)) (Nat.mod_lt _ (by omega)) (by omega), same_d hG _ _ _ _ R.bP⟩
  have pc : (helloS k (2 * Q + 1) Q 4 ⟨#[117]⟩ pass p).pass = roB pass := rfl
  have qc : (helloS k (2 * Q + 1) Q 4 ⟨#[117]⟩ pass p).salt = .nils := rfl
  have ps : (offS k (2 * Q + 1) Q 4 ⟨#[117]⟩ salt (4 ^ xI Q (strB ⟨#[117]⟩) pass salt % (2 * Q + 1)) (4 ^ exW Q [[97], p] % (2 * Q + 1)) (exW Q [[98], p])).pass = .nils := rfl
  have qs : (offS k (2 * Q + 1) Q 4 ⟨#[117]⟩ salt (4 ^ xI Q (strB ⟨#[117]⟩) pass salt % (2 * Q + 1)) (4 ^ exW Q [[97], p] % (2 * Q + 1)) (exW Q [[98], p])).salt = roB salt := rfl
  have pd : (provS (helloS k (2 * Q + 1) Q 4 ⟨#[117]⟩ pass p) pass salt (offB (2 * Q + 1) Q 4 (4 ^ xI Q (strB ⟨#[117]⟩) pass salt % (2 * Q + 1)) (exW Q [[98], p]))).pass = roB pass := rfl
  have qd : (provS (helloS k (2 * Q + 1) Q 4 ⟨#[117]⟩ pass p) pass salt (offB (2 * Q + 1) Q 4 (4 ^ xI Q (strB ⟨#[117]⟩) pass salt % (2 * Q + 1)) (exW Q [[98], p]))).salt = roB salt := rfl
  generalize 2 * Q + 1 = P at *
  generalize offB P Q 4 (4 ^ xI Q (strB ⟨#[117]⟩) pass salt % P) (exW Q [[98], p]) = b at *
  generalize 4 ^ xI Q (strB ⟨#[117]⟩) pass salt % P = V at *
  generalize 4 ^ exW Q [[97], p] % P = A at *
  generalize offS k P Q 4 ⟨#[117]⟩ salt V A (exW Q [[98], p]) = S at *
  generalize provS (helloS k P Q 4 ⟨#[117]⟩ pass p) pass salt b = D at *
  generalize helloS k P Q 4 ⟨#[117]⟩ pass p = c at *
  obtain ⟨hv, ha, hbP, s1, -, s2, s3, -, s4, okc, oks, okd, hkey, hproof, hsB⟩ := R
  have hP := hG.lt
  have hbW : b < W := by omega
  have okr : leafOk (RD.salt ⟨1, ⟨#[117]⟩, roB salt, V⟩) = true := rfl
  have nrr : noRef (rec_ ⟨1, ⟨#[117]⟩, roB salt, V⟩) = true := noRef_rec rfl
  have ac := as_ okc (cells_pass (.inl ⟨_, pc⟩)) (cells_salt (.inr qc))
  have as1 := as_ oks (cells_pass (.inr ps)) (cells_salt (.inl ⟨_, qs⟩))
  have ad := as_ okd (cells_pass (.inl ⟨_, pd⟩)) (cells_salt (.inl ⟨_, qd⟩))
  have a0 := as_ side0_ok (cells_pass (.inr rfl)) (cells_salt (.inr rfl))
  clear hbP hkey hsB g1
  simp (disch := omega) [upd_eq, tyGroup]
  refine callT_of s1 (by simp [noRefs, noRef]) rfl ?_
  simp (disch := omega) [upd_eq, tyRec, tyGroup, build_rec (cellsA_roB _), store_rec okr, putR_all]
  refine callT_of s2 (by simp [noRefs, noRef]) (by simp [noRef, noRefs, noRef_side okc]) ?_
  simp (disch := omega) [upd_eq, tyRec, tyGroup, tyNum, tySide, store_side okc, putS_all side0_ok okc, segS_all okc]
  refine callT_of ac (by simp [noRefs, noRef, noRef_side okc]) (by simp [noRef, noRefs, noRef_side okc]) ?_
  simp (disch := omega) [upd_eq, tyRec, tyGroup, tyNum, tyRSide, tySide, store_side okc, putS_all side0_ok okc, segS_all okc]
  by_cases h0 : b = 0
  · rw [if_pos h0] at s3
    refine callT_of s3 (by simp [noRefs, nrr]) (by simp [noRef, noRefs, noRef_side side0_ok]) ?_
    simp (disch := omega) [upd_eq, tyRec, tyGroup, tyNum, tySide, tyRSide, store_side side0_ok, putS_all side0_ok side0_ok]
    refine callT_of s3 (by simp [noRefs, nrr]) (by simp [noRef, noRefs, noRef_side side0_ok]) ?_
    simp (disch := omega) [upd_eq, tyNum, tySide, tyRSide, store_side side0_ok, putS_all side0_ok side0_ok, segS_all side0_ok, isBoolB, eql_num, neq_num]
    refine callT_of a0 (by simp [noRefs, noRef, noRef_side side0_ok]) (by simp [noRef, noRefs, noRef_side side0_ok]) ?_
    simp (disch := omega) [upd_eq, tyNum, tySide, tyRSide, segS_all side0_ok]
    refine callT_of a0 (by simp [noRefs, noRef, noRef_side side0_ok]) (by simp [noRef, noRefs, noRef_side side0_ok]) ?_
    simp (disch := omega) [upd_eq]
    refine callT_of same_0 (by simp [noRefs, noRef, noRef_side side0_ok]) rfl ?_
    simp (disch := omega) [upd_eq, tyNum, eql_num, resA_L Try.results10, view, view1, noRef]
  rw [if_neg h0] at s3
  have s4 := s4 h0
  refine callT_of s3 (by simp [noRefs, nrr]) (by simp [noRef, noRefs, noRef_side oks]) ?_
  simp (disch := omega) [upd_eq, tyRec, tyGroup, tyNum, tySide, tyRSide, store_side oks, putS_all side0_ok oks]
  refine callT_of s3 (by simp [noRefs, nrr]) (by simp [noRef, noRefs, noRef_side oks]) ?_
  simp (disch := omega) [upd_eq, tyNum, tySide, tyRSide, store_side oks, putS_all side0_ok oks, segS_all oks, isBoolB, eql_num, neq_num]
  refine callT_of as1 (by simp [noRefs, noRef, noRef_side oks]) (by simp [noRef, noRefs, noRef_side oks]) ?_
  simp (disch := omega) [upd_eq, tyNum, tySide, tyRSide, segS_all oks]
  refine callT_of as1 (by simp [noRefs, noRef, noRef_side oks]) (by simp [noRef, noRefs, noRef_side oks]) ?_
  simp (disch := omega) [upd_eq]
  refine callT_of m2 (by simp [noRefs, noRef, noRef_side oks]) rfl ?_
  simp (disch := omega) [upd_eq, tyNum, tySide, segS_all okc]
  refine callT_of s4 (by simp [noRefs, noRef_side okc]) (by simp [noRef, noRefs, noRef_side okd]) ?_
  have hdl := okd.proof
  simp (disch := omega) [upd_eq, tySum, tyNum, tySide, store_side okd, putS_all side0_ok okd, segS_all okc, store_smA hdl, putSeg_bl (l := z16) (m := D.proof) (by simp [hdl])]
  refine callT_of s4 (by simp [noRefs, noRef_side okc]) (by simp [noRef, noRefs, noRef_side okd]) ?_
  simp (disch := omega) [upd_eq, tySum, tyNum, tySide, store_side okd, putS_all side0_ok okd, segS_all okd, store_smA hdl, putSeg_bl (l := z16) (m := D.proof) (by simp [hdl]), segA_bl hdl, eql_sum hdl hdl]
  refine callT_of ad (by simp [noRefs, noRef, noRef_side okd]) (by simp [noRef, noRefs, noRef_side okd]) ?_
  simp (disch := omega) [upd_eq, tySide, segS_all okd]
  refine callT_of ad (by simp [noRefs, noRef, noRef_side okd]) (by simp [noRef, noRefs, noRef_side okd]) ?_
  simp (disch := omega) [upd_eq]
  refine callT_of m3 (by simp [noRefs, noRef, noRef_side okd]) rfl ?_
  simp (disch := omega) [upd_eq, tySide, segS_all okc]
  refine callT_of ac (by simp [noRefs, noRef, noRef_side okc]) (by simp [noRef, noRefs, noRef_side okc]) ?_
  simp (disch := omega) [upd_eq, tyRSide, segS_all okc]
  refine callT_of m1 (by simp [noRefs, noRef, noRef_side okc]) rfl ?_
  simp (disch := omega) [upd_eq, tyStr, tyBytes, convOwn_BS, conv_S, eqlS, resA_L Try.results10, view, view1, noRef]
theorem law_SrpOwn (n : Int) (f1 : Nat → Nat) (h1 : ∀ i, f1 i < 256) (n1 : Nat) (f2 : Nat → Nat) (h2 : ∀ i, f2 i < 256) (n2 : Nat) (f3 : Nat → Nat) (h3 : ∀ i, f3 i < 256) (n3 : Nat) :
    ASpec Try.prog 10 [.int .i64 n, .ro n1 (famL (u8F f1) n1), .ro n2 (famL (u8F f2) n2), .ro n3 (famL (u8F f3) n3)] (.bool true) := by
  rw [fl_ro, fl_ro, fl_ro]
  exact srpOwn n _ _ _
end Go.Proofs.Ytgefihgogfkjoaa
