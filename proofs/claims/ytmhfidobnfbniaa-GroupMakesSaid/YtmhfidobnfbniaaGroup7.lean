import Derived.Test.YtmhfidobnfbniaaGroup4
set_option linter.unusedSimpArgs false
set_option linter.unusedVariables false
/-! GroupMakes. -/
namespace Go.Proofs.Ytmhfidobnfbniaa
open Go.Am

theorem eqkGroup : eqK Try.prog 28 = some (.i .i64 :: List.replicate 24 (.i .u32)) := by kernel_rfl
theorem aggGroup : aggT Try.prog 28 = true := by kernel_rfl
def isIntG : AV → Bool
  | .int _ _ => true
  | _ => false
theorem eqCells_selfG : ∀ (l : List AV), l.all isIntG = true → eqCells l l = some true
  | [], _ => rfl
  | a :: l, h => by
    simp only [List.all_cons, Bool.and_eq_true] at h
    have ih := eqCells_selfG l h.2
    have he : eqCell a a = some true := by
      have h1 := h.1
      cases a <;> first
        | (exact absurd (show false = true from h1) (by decide))
        | simp [eqCell]
    simp [eqCells, he, ih]
theorem eqA_group (B : Int) (P Q G : Nat) : eqA Try.prog 28 (groupL B P Q G) (groupL B P Q G) = some true := by
  have hk : kindsOk (.i .i64 :: List.replicate 24 (.i .u32)) (groupL B P Q G) = true := rfl
  unfold eqA
  rw [eqkGroup]
  simp only [hk, aggGroup, and_self, if_true]
  exact eqCells_selfG _ rfl
theorem eql_group (B : Int) (P Q G : Nat) : binA Try.prog .eql 28 (group B P Q G) (group B P Q G) = some (.bool true) := by
  simp only [binA, group, eqA_group]
theorem neq_group (B : Int) (P Q G : Nat) : binA Try.prog .neq 28 (group B P Q G) (group B P Q G) = some (.bool false) := by
  simp only [binA, group, eqA_group, Bool.not_true]

open Classical in
set_option maxHeartbeats 4000000 in
set_option maxRecDepth 16000 in
theorem law_GroupMakes (bits raw : Int) (hr : -9223372036854775808 ≤ raw ∧ raw < 9223372036854775808) : ASpec Try.prog 3 [.int .i64 bits, .int .i64 raw] (.bool true) := by
  refine ASpec.start 1000 Try.func3 (fn := Try.f3) rfl (by decide) mixed (by kernel_rfl) (by simp) ?_
  have h0W := W_big
  simp (disch := omega) [ini, upd_eq]
  refine callT_of known4 rfl rfl ?_
  simp (disch := omega) [upd_eq]
  obtain ⟨b, hb, -, s1⟩ := within4N bits 18 (by decide) (by decide)
  refine callT_of s1 rfl rfl ?_
  simp (disch := omega) [upd_eq, in_i64]
  obtain ⟨k, hk⟩ : ∃ k : Nat, 10 + b = k := ⟨_, rfl⟩
  have hk2 : (10 : Int) + b = (k : Nat) := by omega
  rw [hk2]
  obtain ⟨B, P, Q, G, is, g1, g2, hno, hyes⟩ : ∃ (B : Int) (P Q G : Nat) (is : Bool), ASpec Try.prog 10 [.int .i64 (k : Nat)] (.tup [group B P Q G, .bool is]) ∧ ASpec Try.prog 11 [.int .i64 (k : Nat)] (.tup [group B P Q G, .bool is]) ∧ True ∧ (is = true → B = k ∧ P = 2 * Q + 1 ∧ PrimeP P ∧ PrimeP Q) := by
    by_cases hc : k < 12
    · exact ⟨_, _, _, _, _, gmake_no k (by omega), rgmake_no k (by omega), trivial, fun h => by simp at h⟩
    · obtain ⟨q, N, hs⟩ := safe_all (k := k) (by omega) (by omega)
      exact ⟨_, _, _, _, _, gmake hs (by omega) (by omega), rgmake hs (by omega) (by omega), trivial, fun _ => ⟨rfl, rfl, hs.hp, hs.hq⟩⟩
  refine callT_of g1 rfl (by simp [noRef, noRefs]) ?_
  simp (disch := omega) [upd_eq, tyGroup]
  refine callT_of g2 rfl (by simp [noRef, noRefs]) ?_
  simp (disch := omega) [upd_eq, tyGroup]
  by_cases hraw : 12 ≤ raw ∧ raw ≤ 31
  · obtain ⟨j, hj⟩ : ∃ j : Nat, raw = j := ⟨raw.toNat, by omega⟩
    subst hj
    obtain ⟨q, N, hs⟩ := safe_all (k := j) (by omega) (by omega)
    refine callT_of (gmake hs (by omega) (by omega)) rfl (by simp [noRef, noRefs]) ?_
    have h3 : (12 : Int) ≤ (j : Nat) := hraw.1
    have h4 : ((j : Nat) : Int) ≤ 31 := hraw.2
    simp (disch := omega) [upd_eq, tyGroup, h3, h4, isBool, eql_group, resA_L Try.results3]
  · refine callT_of (gmake_no raw (by omega)) rfl (by simp [noRef, noRefs]) ?_
    have hd : (12 ≤ raw) = False ∨ ((12 ≤ raw) = True ∧ (raw ≤ 31) = False) := by
      by_cases h : 12 ≤ raw
      · exact .inr ⟨eq_true h, eq_false fun h2 => hraw ⟨h, h2⟩⟩
      · exact .inl (eq_false h)
    have hfin : is = false ∨ is = true := by cases is <;> simp
    rcases hd with hd | ⟨hd, hd2⟩ <;> rcases hfin with hf | hf
    all_goals subst hf
    case inl.inl => simp (disch := omega) [upd_eq, tyGroup, tyNum, hd, isBool, neq_group, resA_L Try.results3]
    case inr.inl => simp (disch := omega) [upd_eq, tyGroup, tyNum, hd, hd2, isBool, neq_group, resA_L Try.results3]
    case' inl.inr => simp (disch := omega) [upd_eq, tyGroup, tyNum, hd, isBool, neq_group]
    case' inr.inr => simp (disch := omega) [upd_eq, tyGroup, tyNum, hd, hd2, isBool, neq_group]
    all_goals
      obtain ⟨hB, hP, hp, hq⟩ := hyes rfl
      have hQ31 : Q < 2147483648 := by have := hq.2.1; omega
      have hP31 : P < 2147483648 := by have := hp.2.1; omega
      refine callT_of (rsmall (show Q < 4294967296 by omega)) rfl rfl ?_
      simp (disch := omega) [upd_eq, tyGroup, tyNum, in_i64]
      refine callT_of (rsmall (show P < 4294967296 by omega)) rfl rfl ?_
      simp (disch := omega) [upd_eq, tyGroup, tyNum, show (2 * (Q : Int) + 1 == (P : Int)) = true from beq_iff_eq.2 (by omega)]
      refine callT_of (rsmall (show P < 4294967296 by omega)) rfl rfl ?_
      simp (disch := omega) [upd_eq, tyGroup, tyNum]
      refine callT_of (prime P (by omega)) rfl rfl ?_
      simp (disch := omega) [upd_eq, tyGroup, tyNum, hp]
      refine callT_of (rsmall (show Q < 4294967296 by omega)) rfl rfl ?_
      simp (disch := omega) [upd_eq, tyGroup, tyNum]
      refine callT_of (prime Q (by omega)) rfl rfl ?_
      simp (disch := omega) [upd_eq, tyGroup, tyNum, hq, tyInt, hB, resA_L Try.results3]

end Go.Proofs.Ytmhfidobnfbniaa
