/-
  Srp12: Prove.
-/
import Derived.Test.YtgefihgogfkjoaaSrp11
set_option linter.unusedSimpArgs false
set_option linter.unusedVariables false
namespace Go.Am
mutual
theorem refsLt_noRef (m : Nat) : ∀ a : AV, noRef a = true → refsLt m a = true
  | .int _ _, _ | .bool _, _ | .str _, _ | .exact _, _ | .ro _ _, _ | .rp _, _ | .nils, _ | .dead, _ => rfl
  | .ptr _ _, h | .sl _ _ _ _, h => by cases h
  | .agg cs, h => by simp only [noRef] at h; simp only [refsLt]; exact refsLts_noRefs m cs h
  | .tup cs, h => by simp only [noRef] at h; simp only [refsLt]; exact refsLts_noRefs m cs h
  | .fn _ a b, h => by
    simp only [noRef, Bool.and_eq_true] at h
    simp only [refsLt, Bool.and_eq_true]
    exact ⟨refsLts_noRefs m a h.1, refsLts_noRefs m b h.2⟩
theorem refsLts_noRefs (m : Nat) : ∀ l : List AV, noRefs l = true → refsLts m l = true
  | [], _ => rfl
  | a :: l, h => by
    simp only [noRefs, Bool.and_eq_true] at h
    simp only [refsLts, Bool.and_eq_true]
    exact ⟨refsLt_noRef m a h.1, refsLts_noRefs m l h.2⟩
end
mutual
theorem ren_noRef (ρ : Nat → Nat) : ∀ a : AV, noRef a = true → ren ρ a = a
  | .int _ _, _ | .bool _, _ | .str _, _ | .exact _, _ | .ro _ _, _ | .rp _, _ | .nils, _ | .dead, _ => rfl
  | .ptr _ _, h | .sl _ _ _ _, h => by cases h
  | .agg cs, h => by simp only [noRef] at h; simp only [ren, rens_noRefs ρ cs h]
  | .tup cs, h => by simp only [noRef] at h; simp only [ren, rens_noRefs ρ cs h]
  | .fn _ a b, h => by
    simp only [noRef, Bool.and_eq_true] at h
    simp only [ren, rens_noRefs ρ a h.1, rens_noRefs ρ b h.2]
theorem rens_noRefs (ρ : Nat → Nat) : ∀ l : List AV, noRefs l = true → rens ρ l = l
  | [], _ => rfl
  | a :: l, h => by
    simp only [noRefs, Bool.and_eq_true] at h
    simp only [rens, ren_noRef ρ a h.1, rens_noRefs ρ l h.2]
end
end Go.Am
namespace Go.Proofs.Ytgefihgogfkjoaa
open Go.Am

theorem swapI (a b : Nat) : ∀ (l : List (Nat × Blk)), ∀ p ∈ l, ∀ q ∈ l, ((fun i => if i = a then b else if i = b then a else i) p.1 = (fun i => if i = a then b else if i = b then a else i) q.1) → p.1 = q.1 := by
  intro l p _ q _ h
  generalize p.fst = i at *
  generalize q.fst = j at *
  simp only at h
  (repeat' split at h) <;> omega
theorem build_z16 : buildA ⟨16, 16, true, bl z16, .array 16 5 1 false⟩ [] = some (smA z16) := (rfl)
theorem cmp_geq {a b : Nat} : decide (0 ≤ cmpZ a b) = decide (b ≤ a) := by
  have := cmpZ_lt (a := a) (b := b)
  rw [Bool.eq_iff_iff]
  simp only [decide_eq_true_eq]
  omega
theorem gprove_bad {s : SD} (hs : s.ok) (salt : List Int) {b : Nat} (hb : b < W) (hP : s.gP < W) (h : b = 0 ∨ s.gP ≤ b) :
    ASpec Try.prog 18 [side s, roB salt, num b] (.tup [side side0, smA z16, .bool false]) := by
  refine ASpec.startX [10, 15] 1000 Try.func18 (fn := Try.f18) rfl (by decide) mixed (by kernel_rfl) (by simp) ?_
  have hW := W_big
  simp (disch := omega) [ini, upd_eq, tyNum, tySide, tyGroup, tySum, eql_num]
  by_cases h0 : b = 0
  · simp (disch := omega) [upd_eq, tyNum, tySide, tySum, h0, build_side0, build_z16, store_side side0_ok, putS_all side0_ok side0_ok, segS_all side0_ok, view_side _ side0_ok, store_smA z16_length, putSeg_bl (l := z16) (m := z16) rfl, segA_bl z16_length, resA_L Try.results18]
  · have h1 : s.gP ≤ b := by omega
    simp (disch := omega) [upd_eq, tyNum, tySide, tyGroup, h0]
    refine callT_of (cmp b s.gP hb hP) rfl rfl ?_
    have h2 : 0 ≤ cmpZ b s.gP := by have := cmp_geq (a := b) (b := s.gP); simp only [h1, decide_true, decide_eq_true_eq] at this; exact this
    simp (disch := omega) [upd_eq, tyNum, tySide, tySum, h2, build_side0, build_z16, store_side side0_ok, putS_all side0_ok side0_ok, segS_all side0_ok, view_side _ side0_ok, store_smA z16_length, putSeg_bl (l := z16) (m := z16) rfl, segA_bl z16_length, resA_L Try.results18]

/-- the client's base, exponent, side -/
noncomputable def provB (P Q G x b : Nat) : Nat := (b + P - exW Q [[107]] * (G ^ x % P) % P) % P
noncomputable def provE (Q a b own x : Nat) : Nat := (uI Q a b * x % Q + own) % Q
noncomputable def provS (s : SD) (pass salt : List Int) (b : Nat) : SD :=
  keyedS { s with b := b, salt := roB salt, pass := roB pass } salt (provB s.gP s.gQ s.gG (xI s.gQ (strB s.name) pass salt) b ^ provE s.gQ s.a b s.own (xI s.gQ (strB s.name) pass salt) % s.gP)
theorem xI_lt {Q : Nat} (h : 2 ≤ Q) (name pass salt : List Int) : xI Q name pass salt < Q := by
  have := exI_range (Q := Q) (stretchI (macI [] [[120], name, pass]) salt) h
  unfold xI; omega
theorem uI_lt {Q : Nat} (h : 2 ≤ Q) (a b : Nat) : uI Q a b < Q := by
  have := exW_range (Q := Q) [[117], numB a, numB b] h
  unfold uI; omega
theorem sideL_len (s : SD) : (sideL s).length = 60 + (s.key.length + s.proof.length) := by simp [sideL]
open Classical in
theorem gprove {s : SD} (hs : s.ok) {pass salt : List Int} (hpass : s.pass = roB pass) (hG : GOk s.gP s.gQ) (hg : s.gG < s.gP) (hown : s.own < s.gQ) (hpl : pass.length ≤ 100000) (hsl : salt.length ≤ 100000) (hn : s.name.size ≤ 100000) {b : Nat} (h0 : b ≠ 0) (hb : b < s.gP) :
    ASpec Try.prog 18 [side s, roB salt, num b]
      (if HasP s.gP s.gQ (provB s.gP s.gQ s.gG (xI s.gQ (strB s.name) pass salt) b) then .tup [side (provS s pass salt b), smA (provS s pass salt b).proof, .bool true] else .tup [side side0, smA z16, .bool false]) := by
  refine ASpec.startX [10, 15] 1000 Try.func18 (fn := Try.f18) rfl (by decide) mixed (by kernel_rfl) (by simp) ?_
  have hW := W_big
  have hQ := hG.lt
  have hQ2 := hG.two
  have hQl := hG.low
  have hP0 : 0 < s.gP := by omega
  have hk := exW_range (Q := s.gQ) [[107]] (by omega)
  have hc : ¬ 0 ≤ cmpZ b s.gP := by have := cmp_geq (a := b) (b := s.gP); rw [Bool.eq_iff_iff] at this; simp only [decide_eq_true_eq] at this; omega
  simp (disch := omega) [ini, upd_eq, tyNum, tySide, tyGroup, tySum, eql_num, h0]
  refine callT_of (cmp b s.gP (by omega) (by omega)) rfl rfl ?_
  simp (disch := omega) [upd_eq, tyNum, tySide, tyGroup, tyStr, tyBytes, hc, hpass]
  refine callT_of (gsecret hG s.name pass salt hn hpl hsl) (by simp [noRefs, noRef]) rfl ?_
  have hx := xI_lt (Q := s.gQ) (by omega) (strB s.name) pass salt
  obtain ⟨x, hxx⟩ : ∃ x, x = xI s.gQ (strB s.name) pass salt := ⟨_, rfl⟩
  have hpS : provS s pass salt b = keyedS { s with b := b, salt := roB salt, pass := roB pass } salt (provB s.gP s.gQ s.gG x b ^ provE s.gQ s.a b s.own x % s.gP) := by rw [hxx]; rfl
  rw [hpS]
  rw [← hxx] at hx ⊢
  clear hpS hxx
  simp (disch := omega) [upd_eq, tyNum, tySide, tyGroup]
  have s1 := graise (B := s.gB) (P := s.gP) (Q := s.gQ) (G := s.gG) (a := s.gG) (e := x) (by omega) (by omega) (by omega) (by omega) (by omega)
  have hm1 := Nat.mod_lt (s.gG ^ x) hP0
  have hm2 := Nat.mod_lt (exW s.gQ [[107]] * (s.gG ^ x % s.gP)) hP0
  obtain ⟨Bs, hBs⟩ : ∃ Bs, Bs = provB s.gP s.gQ s.gG x b := ⟨_, rfl⟩
  have hB1 : (b + s.gP - exW s.gQ [[107]] * (s.gG ^ x % s.gP) % s.gP) % s.gP = Bs := by rw [hBs]; rfl
  rw [← hBs]
  clear hBs
  refine callT_of s1 (by simp [noRefs]) rfl ?_
  simp (disch := omega) [upd_eq]
  refine callT_of (gmixed hG (show s.gG ^ x % s.gP < W by omega)) (by simp [noRefs]) rfl ?_
  generalize exW s.gQ [[107]] * (s.gG ^ x % s.gP) % s.gP = M2 at *
  simp (disch := omega) [upd_eq, tyNum]
  refine callT_of (sub b M2 (by omega) (by omega)) (by simp [noRefs]) rfl ?_
  have hBsP : Bs < s.gP := by rw [← hB1]; exact Nat.mod_lt _ hP0
  obtain ⟨D, hD⟩ : ∃ D, D = (b + W - M2) % W := ⟨_, rfl⟩
  have hD1 : D < W := by rw [hD]; exact Nat.mod_lt _ W_pos
  rw [← hD]
  simp (disch := omega) [upd_eq, tyNum, tySide, tyGroup]
  refine callT_of (add D s.gP hD1 (by omega)) (by simp [noRefs]) rfl ?_
  have hpick : (if (if b < M2 then 1 else 0) = 0 then D else (D + s.gP) % W) = Bs := by
    by_cases hlt : b < M2
    · have e1 : D = b + W - M2 := by rw [hD]; exact Nat.mod_eq_of_lt (by omega)
      have e2 : (D + s.gP) % W = b + s.gP - M2 := by
        rw [e1, show b + W - M2 + s.gP = b + s.gP - M2 + W by omega, Nat.add_mod_right]
        exact Nat.mod_eq_of_lt (by omega)
      rw [if_neg (by simp [hlt]), e2, ← hB1]
      exact (Nat.mod_eq_of_lt (by omega)).symm
    · have e1 : D = b - M2 := by
        rw [hD, show b + W - M2 = b - M2 + W by omega, Nat.add_mod_right]
        exact Nat.mod_eq_of_lt (by omega)
      rw [if_pos (by simp [hlt]), e1, ← hB1, show b + s.gP - M2 = b - M2 + s.gP by omega, Nat.add_mod_right]
      exact (Nat.mod_eq_of_lt (by omega)).symm
  simp (disch := omega) [upd_eq, tyNum]
  have sp := pick (if b < M2 then 1 else 0) ((D + s.gP) % W) D
  rw [hpick] at sp
  refine callT_of sp (by simp [noRefs, noRef]) rfl ?_
  simp (disch := omega) [upd_eq, tyNum, tySide, tyGroup]
  refine callT_of (ghas (a := Bs) (by omega) (by omega) (by omega) (by omega) (by omega)) (by simp [noRefs]) rfl ?_
  by_cases hH : HasP s.gP s.gQ Bs
  case neg =>
    simp (disch := omega) [upd_eq, tyNum, tySide, tySum, hH, build_side0, build_z16, store_side side0_ok, putS_all side0_ok side0_ok, segS_all side0_ok, view_side _ side0_ok, store_smA z16_length, putSeg_bl (l := z16) (m := z16) rfl, segA_bl z16_length, resA_L Try.results18]
  rw [if_pos hH]
  simp (disch := omega) [upd_eq, tyNum, tySide, tyBytes, hH]
  refine callT_of (gclone salt (by omega)) rfl rfl ?_
  simp (disch := omega) [upd_eq, tyNum, tySide, tyBytes, hpass]
  refine callT_of (gclone pass (by omega)) rfl rfl ?_
  simp (disch := omega) [upd_eq, tyNum, tySide, tyBytes, store_roB, sideL_len, hs.key, hs.proof]
  obtain ⟨s2, hs2⟩ : ∃ s2 : SD, s2 = { s with b := b, salt := roB salt, pass := roB pass } := ⟨_, rfl⟩
  rw [← hs2]
  have ok2 : s2.ok := by rw [hs2]; exact ⟨hs.key, hs.proof, rfl, rfl, rfl, rfl⟩
  have f1 : s2.gB = s.gB := by rw [hs2]
  have f2 : s2.gP = s.gP := by rw [hs2]
  have f3 : s2.gQ = s.gQ := by rw [hs2]
  have f4 : s2.gG = s.gG := by rw [hs2]
  have f5 : s2.a = s.a := by rw [hs2]
  have f6 : s2.b = b := by rw [hs2]
  have f7 : s2.own = s.own := by rw [hs2]
  have f8 : s2.salt = roB salt := by rw [hs2]
  have f9 : s2.name = s.name := by rw [hs2]
  have hu := uI_lt (Q := s.gQ) (by omega) s.a b
  obtain ⟨U, hU⟩ : ∃ U, U = uI s.gQ s.a b := ⟨_, rfl⟩
  have hE : provE s.gQ s.a b s.own x = (U * x % s.gQ + s.own) % s.gQ := by rw [hU]; rfl
  have sb := both (s := s2) ok2 (by rw [f2, f3]; exact hG)
  rw [f3, f5, f6] at sb
  rw [← hU] at hu sb
  rw [hE]
  clear hE hU
  obtain ⟨L, H, hL, hH2, hLH, s5⟩ := gmulR (X := U) (Y := x) (by omega) (by omega)
  have s6 := restN_ (lo := L) (hi := H) (m := s.gQ) hL hH2 (by omega) (by omega)
  rw [hLH] at s6
  have hm6 := Nat.mod_lt (U * x) (show 0 < s.gQ by omega)
  refine goT_region3 mixed 7 (by kernel_rfl) (by kernel_rfl) rfl 9
    [(3, .ptr 0 0), (6, .ptr 2 0), (7, .ptr 3 0), (10, .ptr 5 0), (14, .ptr 7 0), (15, .ptr 8 0)]
    [(0, ⟨sideL s2, true⟩), (2, ⟨sideL side0, true⟩), (3, ⟨bl z16, true⟩), (5, ⟨numL Bs, true⟩), (7, ⟨numL L, true⟩), (8, ⟨numL H, true⟩)] ?_ ?_
  · refine goT_run mixed 900 ?_
    simp (disch := omega) [st_eq, upd_eq, tyNum, tySide, tyGroup, f3]
    refine callT_of s6 (by simp [noRefs]) rfl ?_
    generalize U * x % s.gQ = M6 at *
    simp (disch := omega) [upd_eq, tyNum, tySide, tyGroup, f3, f7]
    refine callT_of (add_small (a := M6) (b := s.own) (by omega)) (by simp [noRefs]) rfl ?_
    simp (disch := omega) [upd_eq, tyNum, tySide, tyGroup, f3]
    have s7 := restN_ (lo := M6 + s.own) (hi := 0) (m := s.gQ) (by omega) (by omega) (by omega) (by omega)
    rw [Nat.zero_mul, Nat.zero_add] at s7
    refine callT_of s7 (by simp [noRefs]) rfl ?_
    have hm7 := Nat.mod_lt (M6 + s.own) (show 0 < s.gQ by omega)
    generalize (M6 + s.own) % s.gQ = M7 at *
    simp (disch := omega) [upd_eq, tyNum, tySide, tyGroup, f1, f2, f3, f4, segS_all ok2]
    have s8 := graise (B := s.gB) (P := s.gP) (Q := s.gQ) (G := s.gG) (a := Bs) (e := M7) (by omega) (by omega) (by omega) (by omega) (by omega)
    refine callT_of s8 (by simp [noRefs]) rfl ?_
    generalize Bs ^ M7 % s.gP = M8 at *
    simp (disch := omega) [upd_eq]
    have okk := keyedS_ok ok2 salt M8
    refine callT_of (keyed ok2 f8 hsl (by rw [f9]; exact hn) M8) (by simp [noRefs, noRef_side ok2]) (by simp [noRef_side okk]) ?_
    generalize keyedS s2 salt M8 = s3 at *
    simp (disch := omega) [upd_eq, tySide, store_side okk, putS_all ok2 okk]
    refine goT_region2 mixed [(122, 6)] 100 (by kernel_rfl) ?_
    simp (disch := omega) [upd_eq, tySide, tySum, segS_all okk, segS_proof okk, store_side okk, putS_all side0_ok okk, store_smA okk.proof, putSeg_bl (l := z16) (m := s3.proof) (by simp [okk.proof])]
    refine ⟨by simp [dynOk, ptrNe, upd_eq], ?_⟩
    simp (disch := omega) [upd_eq, tySide, tySum, segS_all okk, view_side _ okk, segA_bl okk.proof, resA_L Try.results18]
  · simp (disch := omega) [upd_eq, tyNum, tySide, segS_all ok2]
    refine callT_of sb (by simp [noRefs, noRef_side ok2]) rfl ?_
    simp (disch := omega) [upd_eq, tyNum]
    refine callT_of s5 (by simp [noRefs]) rfl ?_
    simp (disch := omega) [upd_eq, tyNum]
    have r1 : ∀ m, refsLts m (sideL s2) = true := fun m => refsLts_noRefs m _ (noRefs_sideL ok2)
    have r2 : ∀ m, refsLts m (sideL side0) = true := fun m => refsLts_noRefs m _ (noRefs_sideL side0_ok)
    have r3 : ∀ ρ, rens ρ (sideL s2) = sideL s2 := fun ρ => rens_noRefs ρ _ (noRefs_sideL ok2)
    have r4 : ∀ ρ, rens ρ (sideL side0) = sideL side0 := fun ρ => rens_noRefs ρ _ (noRefs_sideL side0_ok)
    refine ⟨⟨?_, ?_, ?_⟩, ⟨fun i => if i = 7 then 8 else if i = 8 then 7 else i, ?_, ?_, ?_⟩⟩
    · simp [upd_eq, ren, refsLt]
    · simp [upd_eq, r1, r2, r3, r4]
    · exact fun _ _ _ _ h => h
    · simp [upd_eq, ren, refsLt]
    · simp [upd_eq, r1, r2, r3, r4]
    · exact swapI 7 8 _
end Go.Proofs.Ytgefihgogfkjoaa
