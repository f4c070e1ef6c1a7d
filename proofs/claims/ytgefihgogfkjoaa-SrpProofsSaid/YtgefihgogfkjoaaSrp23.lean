/-
  Srp23: SrpWrong.
-/
import Derived.Test.YtgefihgogfkjoaaSrp22
set_option linter.unusedSimpArgs false
set_option linter.unusedVariables false
namespace Go.Proofs.Ytgefihgogfkjoaa
open Go.Am

theorem noRef_t3 {s : SD} (h : s.ok) (l : List Int) (e : Bool) : noRef (AV.tup [side s, smA l, .bool e]) = true := by simp [noRef, noRefs, noRef_side h]
theorem noRef_t3n {s : SD} (h : s.ok) (n : Nat) (e : Bool) : noRef (AV.tup [side s, num n, .bool e]) = true := by simp [noRef, noRefs, noRef_side h]
theorem noRef_t2n {s : SD} (h : s.ok) (n : Nat) : noRef (AV.tup [side s, num n]) = true := by simp [noRef, noRefs, noRef_side h]
/-- Prove of whatever password: what comes, from both. -/
theorem proves {gB : Int} {P Q : Nat} (hG : GOk P Q) (name : ByteArray) (pass salt p : List Int) (hn : name.size ≤ 100000) (hp : pass.length ≤ 100000) (hs : salt.length ≤ 100000) (hd : p.length ≤ 100000) {b : Nat} (h0 : b ≠ 0) (hb : b < P) :
    ∃ (d : SD) (m : List Int) (e : Bool), d.ok ∧ m.length = 16 ∧ IsB m ∧ ASpec Try.prog 18 [side (helloS gB P Q 4 name pass p), roB salt, num b] (.tup [side d, smA m, .bool e]) ∧
      ASpec Try.prog 32 [side (helloS gB P Q 4 name pass p), roB salt, num b] (.tup [side d, smA m, .bool e]) := by
  have h2 := hG.two
  have hl := hG.low
  have ha1 := exW_range (Q := Q) [[97], p] (by omega)
  have s1 := gprove (s := helloS gB P Q 4 name pass p) (helloS_ok _ _ _ _ _ _ _) (pass := pass) (salt := salt) rfl hG (show 4 < P by omega) (show exW Q [[97], p] < Q by omega) hp hs hn h0 hb
  have s2 := rprove (s := helloS gB P Q 4 name pass p) (helloS_ok _ _ _ _ _ _ _) (pass := pass) (salt := salt) rfl hG (show 4 < P by omega) (show exW Q [[97], p] < Q by omega) hp hs hn h0 hb
  split at s1
  · rename_i hH
    rw [if_pos hH] at s2
    exact ⟨_, _, true, keyedS_ok ⟨rfl, rfl, rfl, rfl, rfl, rfl⟩ _ _, by simp [provS, keyedS], isB_proofI _ _ _ _ _, s1, s2⟩
  · rename_i hH
    rw [if_neg hH] at s2
    exact ⟨side0, z16, false, side0_ok, rfl, fun b hb => by
      have : b = 0 := by simpa [z16] using hb
      omega, s1, s2⟩
theorem srpWrong (n : Int) (pass other p q : List Int) : ASpec Try.prog 6 [.int .i64 n, roB pass, roB other, roB p, roB q] (.bool true) := by
  refine ASpec.start 1000 Try.func6 (fn := Try.f6) rfl (by decide) mixed (by kernel_rfl) (by simp) ?_
  have hW := W_big
  simp (disch := omega) [ini, upd_eq]
  refine callT_of known7 rfl rfl ?_
  simp (disch := omega) [upd_eq, tyStr, tyBytes, tyBB, buildBB4 (cellsA_roB _) (cellsA_roB _) (cellsA_roB _) (cellsA_roB _)]
  refine callT_view (r := .bool (decide (∀ l ∈ [pass, other, p, q], l.length ≤ 64))) ?_ (by simp [flat]) ?_
  · have hv := fun bk nt hb => view_parts (bk := bk) (nt := nt) (id := 0) (f := true) [pass, other, p, q] hb
    simp only [List.map_cons, List.map_nil, List.length_cons, List.length_nil, Nat.zero_add, Nat.reduceAdd] at hv
    simp only [List.map_cons, List.map_nil]
    rw [hv _ _ (by simp [upd_eq])]
    exact short _ (by simp)
  by_cases hsh : ∀ l ∈ [pass, other, p, q], l.length ≤ 64
  case neg =>
    rw [decide_eq_false hsh]
    simp (disch := omega) [upd_eq, resA_L Try.results6, view, view1, noRef]
  rw [decide_eq_true hsh]
  have z2 := hsh pass (by simp)
  have z3 := hsh other (by simp)
  have z4 := hsh p (by simp)
  have z5 := hsh q (by simp)
  obtain ⟨k, Q, N, hs, hk, g1⟩ := group_ n
  have hG : GOk (2 * Q + 1) Q := GOk.of hs hk
  have h4P : 4 < 2 * Q + 1 := by have := hG.low; omega
  have R := run (gB := k) hG ⟨#[117]⟩ pass q p q (by decide) (by omega) (by omega) (by omega) (by omega)
  have t1 := hello (gB := k) hG h4P ⟨#[117]⟩ other p (by omega) (by omega)
  have t2 := rhello (gB := k) hG h4P ⟨#[117]⟩ other p (by omega)
  have okc := helloS_ok k (2 * Q + 1) Q 4 ⟨#[117]⟩ other p
  have hpr : ∀ b, b ≠ 0 → b < 2 * Q + 1 → _ := fun b h0 hb => proves (gB := k) hG ⟨#[117]⟩ other q p (by decide) (by omega) (by omega) (by omega) h0 hb
  generalize 2 * Q + 1 = P at *
  generalize offB P Q 4 (4 ^ xI Q (strB ⟨#[117]⟩) pass q % P) (exW Q [[98], q]) = b at *
  generalize 4 ^ xI Q (strB ⟨#[117]⟩) pass q % P = V at *
  generalize 4 ^ exW Q [[97], p] % P = A at *
  generalize offS k P Q 4 ⟨#[117]⟩ q V A (exW Q [[98], q]) = S at *
  generalize helloS k P Q 4 ⟨#[117]⟩ other p = c at *
  obtain ⟨hv, ha, hbP, -, s1, -, s3, s3', -, -, oks, -, -, -, hsB⟩ := R
  have hP := hG.lt
  have okr : leafOk (RD.salt ⟨1, ⟨#[117]⟩, roB q, V⟩) = true := rfl
  have nrr : noRef (rec_ ⟨1, ⟨#[117]⟩, roB q, V⟩) = true := noRef_rec rfl
  have hsl := oks.proof
  simp (disch := omega) [upd_eq]
  refine callT_of g1 rfl (by simp) ?_
  simp (disch := omega) [upd_eq, tyGroup]
  refine callT_of s1 (by simp [noRefs, noRef]) rfl ?_
  simp (disch := omega) [upd_eq, tyRec, tyGroup, build_rec (cellsA_roB _), store_rec okr, putR_all]
  refine callT_of t1 (by simp [noRefs, noRef]) (noRef_t2n okc _) ?_
  simp (disch := omega) [upd_eq, tyRec, tyGroup, tyNum, tySide, store_side okc, putS_all side0_ok okc]
  by_cases h0 : b = 0
  · rw [if_pos h0] at s3
    refine callT_of s3 (by simp [noRefs, nrr]) (noRef_t3n side0_ok _ _) ?_
    simp (disch := omega) [upd_eq, tyNum, tySide, store_side side0_ok, putS_all side0_ok side0_ok, resA_L Try.results6, view, view1, noRef]
  rw [if_neg h0] at s3 s3'
  refine callT_of s3 (by simp [noRefs, nrr]) (noRef_t3n oks _ _) ?_
  obtain ⟨d, m, e, okd, hml, hmB, u1, u2⟩ := hpr b h0 hbP
  have s5 := gcheck oks hsB hmB (by omega)
  simp (disch := omega) [upd_eq, tyRec, tyGroup, tyNum, tySide, store_side oks, putS_all side0_ok oks]
  refine callT_of t2 (by simp [noRefs, noRef]) (noRef_t2n okc _) ?_
  simp (disch := omega) [upd_eq, tyRec, tyGroup, tyNum, tySide, tyRSide, store_side okc, putS_all side0_ok okc]
  refine callT_of s3' (by simp [noRefs, nrr]) (noRef_t3n oks _ _) ?_
  simp (disch := omega) [upd_eq, tyNum, tySide, tyRSide, store_side oks, putS_all side0_ok oks, segS_all okc]
  refine callT_of u1 (by simp [noRefs, noRef_side okc]) (noRef_t3 okd _ _) ?_
  simp (disch := omega) [upd_eq, tyNum, tySide, tyRSide, tySum, store_side okd, putS_all side0_ok okd, segS_all okc, store_smA hml, putSeg_bl (l := z16) (m := m) (by simp [hml])]
  refine callT_of u2 (by simp [noRefs, noRef_side okc]) (noRef_t3 okd _ _) ?_
  simp (disch := omega) [upd_eq, tyNum, tySide, tyRSide, tySum, store_side okd, putS_all side0_ok okd, segS_all oks, store_smA hml, putSeg_bl (l := z16) (m := m) (by simp [hml]), segA_bl hml]
  refine callT_of (rbytesS m hml) (by simp [noRefs]) rfl ?_
  have q1 := eql_sum hml hsl
  have hc1 : (if m = S.proof then secI S.key S.proof else z16).length = 16 := by split <;> simp
  generalize (if m = S.proof then secI S.key S.proof else z16) = C1 at *
  generalize decide (m = S.proof) = r at s5 q1
  simp (disch := omega) [upd_eq]
  refine callT_of s5 (by simp [noRefs, noRef_side oks]) (noRef_tsb _ _) ?_
  cases e
  · simp (disch := omega) [upd_eq, tySum, tySide, tyRSide, store_smA hc1, putSeg_bl (l := z16) (m := C1) (by simp [hc1]), segS_proof oks, segA_bl hml, q1, isBool, resA_L Try.results6, view, view1, noRef]
  · simp (disch := omega) [upd_eq, tySum, tySide, tyRSide, store_smA hc1, putSeg_bl (l := z16) (m := C1) (by simp [hc1]), segS_proof oks, segA_bl hml, q1, isBool, resA_L Try.results6, view, view1, noRef]
theorem law_SrpWrong (n : Int) (f1 : Nat → Nat) (h1 : ∀ i, f1 i < 256) (n1 : Nat) (f2 : Nat → Nat) (h2 : ∀ i, f2 i < 256) (n2 : Nat) (f3 : Nat → Nat) (h3 : ∀ i, f3 i < 256) (n3 : Nat) (f4 : Nat → Nat) (h4 : ∀ i, f4 i < 256) (n4 : Nat) :
    ASpec Try.prog 6 [.int .i64 n, .ro n1 (famL (u8F f1) n1), .ro n2 (famL (u8F f2) n2), .ro n3 (famL (u8F f3) n3), .ro n4 (famL (u8F f4) n4)] (.bool true) := by
  rw [fl_ro, fl_ro, fl_ro, fl_ro]
  exact srpWrong n _ _ _ _
end Go.Proofs.Ytgefihgogfkjoaa
