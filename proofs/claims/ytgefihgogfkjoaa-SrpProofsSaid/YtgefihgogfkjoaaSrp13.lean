/-
  Srp13: the document's Prove.
-/
import Derived.Test.YtgefihgogfkjoaaSrp12
set_option linter.unusedSimpArgs false
set_option linter.unusedVariables false
namespace Go.Proofs.Ytgefihgogfkjoaa
open Go.Am

theorem rprove_bad {s : SD} (hs : s.ok) (salt : List Int) {b : Nat} (hb : b < W) (hP : s.gP < W) (h : b = 0 ∨ s.gP ≤ b) :
    ASpec Try.prog 32 [side s, roB salt, num b] (.tup [side side0, smA z16, .bool false]) := by
  refine ASpec.startX [11, 14] 1000 Try.func32 (fn := Try.f32) rfl (by decide) mixed (by kernel_rfl) (by simp) ?_
  have hW := W_big
  simp (disch := omega) [ini, upd_eq, tyNum, tyRSide, tyGroup, tySum, eql_num]
  by_cases h0 : b = 0
  · simp (disch := omega) [upd_eq, tyNum, tyRSide, tySum, h0, build_side0, build_z16, store_side side0_ok, putS_all side0_ok side0_ok, segS_all side0_ok, view_side _ side0_ok, store_smA z16_length, putSeg_bl (l := z16) (m := z16) rfl, segA_bl z16_length, resA_L Try.results32]
  · have h1 : s.gP ≤ b := by omega
    simp (disch := omega) [upd_eq, tyNum, tyRSide, tyGroup, h0]
    refine callT_of (rcmp b s.gP hb hP) rfl rfl ?_
    have h2 : 0 ≤ cmpZ b s.gP := by have := cmp_geq (a := b) (b := s.gP); simp only [h1, decide_true, decide_eq_true_eq] at this; exact this
    simp (disch := omega) [upd_eq, tyNum, tyRSide, tySum, h2, build_side0, build_z16, store_side side0_ok, putS_all side0_ok side0_ok, segS_all side0_ok, view_side _ side0_ok, store_smA z16_length, putSeg_bl (l := z16) (m := z16) rfl, segA_bl z16_length, resA_L Try.results32]
open Classical in
theorem rprove {s : SD} (hs : s.ok) {pass salt : List Int} (hpass : s.pass = roB pass) (hG : GOk s.gP s.gQ) (hg : s.gG < s.gP) (hown : s.own < s.gQ) (hpl : pass.length ≤ 100000) (hsl : salt.length ≤ 100000) (hn : s.name.size ≤ 100000) {b : Nat} (h0 : b ≠ 0) (hb : b < s.gP) :
    ASpec Try.prog 32 [side s, roB salt, num b]
      (if HasP s.gP s.gQ (provB s.gP s.gQ s.gG (xI s.gQ (strB s.name) pass salt) b) then .tup [side (provS s pass salt b), smA (provS s pass salt b).proof, .bool true] else .tup [side side0, smA z16, .bool false]) := by
  refine ASpec.startX [11, 14] 1000 Try.func32 (fn := Try.f32) rfl (by decide) mixed (by kernel_rfl) (by simp) ?_
  have hW := W_big
  have hQ := hG.lt
  have hQ2 := hG.two
  have hQl := hG.low
  have hP0 : 0 < s.gP := by omega
  have hk := exW_range (Q := s.gQ) [[107]] (by omega)
  have hc : ¬ 0 ≤ cmpZ b s.gP := by have := cmp_geq (a := b) (b := s.gP); rw [Bool.eq_iff_iff] at this; simp only [decide_eq_true_eq] at this; omega
  simp (disch := omega) [ini, upd_eq, tyNum, tyRSide, tyGroup, tySum, eql_num, h0]
  refine callT_of (rcmp b s.gP (by omega) (by omega)) rfl rfl ?_
  simp (disch := omega) [upd_eq, tyNum, tyRSide, tyGroup, tyStr, tyBytes, hc, hpass]
  refine callT_of (rx hG s.name pass salt hn hpl hsl) (by simp [noRefs, noRef]) rfl ?_
  have hx := xI_lt (Q := s.gQ) (by omega) (strB s.name) pass salt
  obtain ⟨x, hxx⟩ : ∃ x, x = xI s.gQ (strB s.name) pass salt := ⟨_, rfl⟩
  obtain ⟨s2, hs2⟩ : ∃ s2 : SD, s2 = { s with b := b, salt := roB salt } := ⟨_, rfl⟩
  have hs2' : s2 = { s with b := b, salt := roB salt, pass := roB pass } := by rw [hs2, ← hpass]
  have hpS : provS s pass salt b = keyedS s2 salt (provB s.gP s.gQ s.gG x b ^ provE s.gQ s.a b s.own x % s.gP) := by rw [hxx, hs2']; rfl
  rw [hpS]
  rw [← hxx] at hx ⊢
  clear hpS hxx
  simp (disch := omega) [upd_eq, tyNum, tyRSide, tyGroup]
  refine callT_of (rk hG) (by simp [noRefs]) rfl ?_
  simp (disch := omega) [upd_eq, tyNum, tyGroup]
  have s1 := rraise (B := s.gB) (P := s.gP) (Q := s.gQ) (G := s.gG) (a := s.gG) (e := x) (by omega) (by omega) (by omega) (by omega)
  have hm1 := Nat.mod_lt (s.gG ^ x) hP0
  have hm2 := Nat.mod_lt (exW s.gQ [[107]] * (s.gG ^ x % s.gP)) hP0
  obtain ⟨Bs, hBs⟩ : ∃ Bs, Bs = provB s.gP s.gQ s.gG x b := ⟨_, rfl⟩
  have hB1 : (b + s.gP - exW s.gQ [[107]] * (s.gG ^ x % s.gP) % s.gP) % s.gP = Bs := by rw [hBs]; rfl
  rw [← hBs]
  clear hBs
  refine callT_of s1 (by simp [noRefs]) rfl ?_
  simp (disch := omega) [upd_eq]
  have st := rtimes (B := s.gB) (P := s.gP) (Q := s.gQ) (G := s.gG) (a := exW s.gQ [[107]]) (b := s.gG ^ x % s.gP) (by omega) (by omega) (by omega) hP0
  refine callT_of st (by simp [noRefs]) rfl ?_
  generalize exW s.gQ [[107]] * (s.gG ^ x % s.gP) % s.gP = M2 at *
  simp (disch := omega) [upd_eq, tyNum, tyGroup]
  have ss := rsub s.gP M2 (by omega) (by omega)
  rw [show s.gP + W - M2 = s.gP - M2 + W by omega, Nat.add_mod_right, Nat.mod_eq_of_lt (show s.gP - M2 < W by omega)] at ss
  refine callT_of ss (by simp [noRefs]) (by simp [noRef, noRefs]) ?_
  have hBsP : Bs < s.gP := by rw [← hB1]; exact Nat.mod_lt _ hP0
  simp (disch := omega) [upd_eq, tyNum, tyGroup]
  have sB := rsum (a := b) (b := s.gP - M2) (m := s.gP) (by omega) (by omega) (by omega) (by omega)
  rw [show b + (s.gP - M2) = b + s.gP - M2 by omega, hB1] at sB
  refine callT_of sB (by simp [noRefs]) rfl ?_
  simp (disch := omega) [upd_eq, tyNum, tyRSide, tyGroup]
  refine callT_of (rhas (a := Bs) (by omega) (by omega) (by omega) (by omega)) (by simp [noRefs]) rfl ?_
  by_cases hH : HasP s.gP s.gQ Bs
  case neg =>
    simp (disch := omega) [upd_eq, tyNum, tyRSide, tySum, hH, build_side0, build_z16, store_side side0_ok, putS_all side0_ok side0_ok, segS_all side0_ok, view_side _ side0_ok, store_smA z16_length, putSeg_bl (l := z16) (m := z16) rfl, segA_bl z16_length, resA_L Try.results32]
  rw [if_pos hH]
  simp (disch := omega) [upd_eq, tyNum, tyRSide, tyBytes, hH, store_roB, sideL_len, hs.key, hs.proof]
  rw [← hs2]
  have ok2 : s2.ok := by rw [hs2']; exact ⟨hs.key, hs.proof, rfl, rfl, rfl, rfl⟩
  have f5 : s2.a = s.a := by rw [hs2]
  have f7 : s2.own = s.own := by rw [hs2]
  have f8 : s2.salt = roB salt := by rw [hs2]
  have f9 : s2.name = s.name := by rw [hs2]
  have hu := uI_lt (Q := s.gQ) (by omega) s.a b
  have sb := ru (B := s.gB) (G := s.gG) hG s.a b
  obtain ⟨U, hU⟩ : ∃ U, U = uI s.gQ s.a b := ⟨_, rfl⟩
  have hE : provE s.gQ s.a b s.own x = (s.own + U * x % s.gQ) % s.gQ := by rw [hU, Nat.add_comm]; rfl
  rw [← hU] at hu sb
  rw [hE]
  clear hE hU
  obtain ⟨L, H, hL, hH2, hLH, s5⟩ := rmulR (X := U) (Y := x) (by omega) (by omega)
  have s6 := rrestN (lo := L) (hi := H) (m := s.gQ) hL hH2 (by omega) (by omega)
  rw [hLH] at s6
  have hm6 := Nat.mod_lt (U * x) (show 0 < s.gQ by omega)
  refine goT_region3 mixed 10 (by kernel_rfl) (by kernel_rfl) rfl 11
    [(3, .ptr 0 0), (6, .ptr 2 0), (7, .ptr 3 0), (9, .ptr 4 0), (14, .ptr 8 0), (15, .ptr 9 0), (16, .ptr 10 0)]
    [(0, ⟨sideL s2, true⟩), (2, ⟨sideL side0, true⟩), (3, ⟨bl z16, true⟩), (4, ⟨groupL s.gB s.gP s.gQ s.gG, true⟩), (8, ⟨numL Bs, true⟩), (9, ⟨numL L, true⟩), (10, ⟨numL H, true⟩)] ?_ ?_
  · refine goT_run mixed 900 ?_
    simp (disch := omega) [st_eq, upd_eq, tyNum, tyRSide, tyGroup]
    refine callT_of s6 (by simp [noRefs]) rfl ?_
    generalize U * x % s.gQ = M6 at *
    simp (disch := omega) [upd_eq, tyNum, tyRSide, tyGroup, segS_all ok2, f7]
    have s7 := rsum (a := s.own) (b := M6) (m := s.gQ) (by omega) (by omega) (by omega) (by omega)
    refine callT_of s7 (by simp [noRefs]) rfl ?_
    have hm7 := Nat.mod_lt (s.own + M6) (show 0 < s.gQ by omega)
    generalize (s.own + M6) % s.gQ = M7 at *
    simp (disch := omega) [upd_eq]
    have s8 := rraise (B := s.gB) (P := s.gP) (Q := s.gQ) (G := s.gG) (a := Bs) (e := M7) (by omega) (by omega) (by omega) (by omega)
    refine callT_of s8 (by simp [noRefs]) rfl ?_
    generalize Bs ^ M7 % s.gP = M8 at *
    simp (disch := omega) [upd_eq]
    have okk := keyedS_ok ok2 salt M8
    refine callT_of (rkeyed ok2 f8 hsl (by rw [f9]; exact hn) M8) (by simp [noRefs, noRef_side ok2]) (by simp [noRef_side okk]) ?_
    generalize keyedS s2 salt M8 = s3 at *
    simp (disch := omega) [upd_eq, tyRSide, store_side okk, putS_all ok2 okk]
    refine goT_region2 mixed [(101, 6)] 100 (by kernel_rfl) ?_
    simp (disch := omega) [upd_eq, tyRSide, tySum, segS_all okk, segS_proof okk, store_side okk, putS_all side0_ok okk, store_smA okk.proof, putSeg_bl (l := z16) (m := s3.proof) (by simp [okk.proof])]
    refine ⟨by simp [dynOk, ptrNe, upd_eq], ?_⟩
    simp (disch := omega) [upd_eq, tyRSide, tySum, segS_all okk, view_side _ okk, segA_bl okk.proof, resA_L Try.results32]
  · simp (disch := omega) [upd_eq, tyNum, tyRSide, tyGroup, f5]
    refine callT_of sb (by simp [noRefs]) rfl ?_
    simp (disch := omega) [upd_eq, tyNum]
    refine callT_of s5 (by simp [noRefs]) rfl ?_
    simp (disch := omega) [upd_eq, tyNum]
    have r1 : ∀ m, refsLts m (sideL s2) = true := fun m => refsLts_noRefs m _ (noRefs_sideL ok2)
    have r2 : ∀ m, refsLts m (sideL side0) = true := fun m => refsLts_noRefs m _ (noRefs_sideL side0_ok)
    have r3 : ∀ ρ, rens ρ (sideL s2) = sideL s2 := fun ρ => rens_noRefs ρ _ (noRefs_sideL ok2)
    have r4 : ∀ ρ, rens ρ (sideL side0) = sideL side0 := fun ρ => rens_noRefs ρ _ (noRefs_sideL side0_ok)
    refine ⟨⟨?_, ?_, ?_⟩, ⟨fun i => if i = 9 then 10 else if i = 10 then 9 else i, ?_, ?_, ?_⟩⟩
    · simp [upd_eq, ren, refsLt]
    · simp [upd_eq, r1, r2, r3, r4]
    · exact fun _ _ _ _ h => h
    · simp [upd_eq, ren, refsLt]
    · simp [upd_eq, r1, r2, r3, r4]
    · exact swapI 9 10 _
end Go.Proofs.Ytgefihgogfkjoaa
