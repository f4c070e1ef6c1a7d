/-
  Srp11: the document's Offer.
-/
import Derived.Test.YtgefihgogfkjoaaSrp10
set_option linter.unusedSimpArgs false
set_option linter.unusedVariables false
namespace Go.Proofs.Ytgefihgogfkjoaa
open Go.Am

theorem roffer_bad {gB : Int} {P Q G a : Nat} {r : RD} (draw : List Int) (hG : GOk P Q) (ha : a < W) (hv : r.v < W) (hs : noRef r.salt = true) (h : ¬ (HasP P Q a ∧ HasP P Q r.v)) :
    ASpec Try.prog 17 [group gB P Q G, rec_ r, num a, roB draw] (.tup [side side0, num 0, .bool false]) := by
  refine ASpec.startX [3, 8] 1000 Try.func17 (fn := Try.f17) rfl (by decide) mixed (by kernel_rfl) (by simp) ?_
  have hW := W_big
  have hQ := hG.lt
  have hQ2 := hG.two
  have hQl := hG.low
  simp (disch := omega) [ini, upd_eq, tyNum, tyRSide, tyGroup, tyRec]
  refine callT_of (rhas ha (by omega) (by omega) (by omega)) (by simp [noRefs]) rfl ?_
  by_cases h1 : HasP P Q a
  · have h2 : ¬ HasP P Q r.v := fun h2 => h ⟨h1, h2⟩
    simp (disch := omega) [upd_eq, tyNum, tyRSide, tyGroup, tyRec, h1]
    refine callT_of (rhas hv (by omega) (by omega) (by omega)) (by simp [noRefs]) rfl ?_
    simp (disch := omega) [upd_eq, tyNum, tyRSide, h2, build_side0, store_side side0_ok, putS_all side0_ok side0_ok, segS_all side0_ok, view_side _ side0_ok, resA_L Try.results17]
  · simp (disch := omega) [upd_eq, tyNum, tyRSide, h1, build_side0, store_side side0_ok, putS_all side0_ok side0_ok, segS_all side0_ok, view_side _ side0_ok, resA_L Try.results17]
theorem build_roffer {gB : Int} {P Q G a own v : Nat} {name : ByteArray} {salt : AV} (hc : cellsA salt = some [salt]) : buildA ⟨92, 328, true, sideL side0, .struct sideF⟩ [(0, group gB P Q G), (1, .str name), (3, num a), (5, num own), (6, salt), (7, num v)] = some (side ⟨gB, P, Q, G, name, .nils, a, 0, own, salt, v, z16, z16⟩) := by
  unfold buildA
  simp only
  rw [fill_step rfl (cellsA_group _ _ _ _) (by simp) (putS_G _ _ _ _), fill_step rfl (show cellsA (.str name) = some [.str name] from rfl) rfl (putS_name1 _),
    fill_step rfl (cellsA_num _) (by simp) (putS_A _), fill_step rfl (cellsA_num _) (by simp) (putS_own _), fill_step rfl hc rfl (putS_salt1 _), fill_step rfl (cellsA_num _) (by simp) (putS_v _)]
  rfl
theorem roffer {gB : Int} {P Q G a : Nat} {r : RD} {salt : List Int} (draw : List Int) (hG : GOk P Q) (hg : G < P) (hsalt : r.salt = roB salt) (hl : salt.length ≤ 100000) (hd : draw.length ≤ 100000) (hn : r.name.size ≤ 100000) (ha : HasP P Q a) (hv : HasP P Q r.v) :
    ASpec Try.prog 17 [group gB P Q G, rec_ r, num a, roB draw]
      (if offB P Q G r.v (exW Q [[98], draw]) = 0 then .tup [side side0, num 0, .bool false]
        else .tup [side (offS gB P Q G r.name salt r.v a (exW Q [[98], draw])), num (offB P Q G r.v (exW Q [[98], draw])), .bool true]) := by
  refine ASpec.startX [3, 8] 1000 Try.func17 (fn := Try.f17) rfl (by decide) mixed (by kernel_rfl) (by simp) ?_
  have hW := W_big
  have hQ := hG.lt
  have hQ2 := hG.two
  have hQl := hG.low
  have haP := ha.2.1
  have hvP := hv.2.1
  simp (disch := omega) [ini, upd_eq, tyNum, tyRSide, tyGroup, tyRec]
  refine callT_of (rhas (by omega) (by omega) (by omega) (by omega)) (by simp [noRefs]) rfl ?_
  simp (disch := omega) [upd_eq, tyNum, tyRSide, tyGroup, tyRec, ha]
  refine callT_of (rhas (by omega) (by omega) (by omega) (by omega)) (by simp [noRefs]) rfl ?_
  simp (disch := omega) [upd_eq, hv]
  refine goT_regionZ mixed [31, 32, 34] 100 (by kernel_rfl) ?_
  simp (disch := omega) [upd_eq, tyBytes, tyStr, tyBB, tyNum, tyGroup, tyRec, noRefs, noRef, frzB1, frzCvB (l := [98]) (by simp), frzBB2, hsalt]
  refine callT_of (rexpo (B := gB) (G := G) hG [[98], draw] (few2 (by simp) hd) (by simp)) (by simp [noRefs]) rfl ?_
  have hx := exW_range (Q := Q) [[98], draw] (by omega)
  generalize exW Q [[98], draw] = E at *
  obtain ⟨s0, hs0⟩ : ∃ s0 : SD, s0 = ⟨gB, P, Q, G, r.name, .nils, a, 0, E, roB salt, r.v, z16, z16⟩ := ⟨_, rfl⟩
  have ok0 : s0.ok := by rw [hs0]; exact ⟨rfl, rfl, rfl, rfl, rfl, rfl⟩
  have e0 : s0.own = E := by rw [hs0]
  simp (disch := omega) [upd_eq, tyNum, tyGroup, tyRSide, tyRec, tyBytes, hsalt, build_roffer (cellsA_roB _)]
  rw [← hs0]
  simp (disch := omega) [upd_eq, tyNum, tyGroup, tyRSide, store_side ok0, putS_all side0_ok ok0, e0]
  refine callT_of (rk hG) (by simp [noRefs]) rfl ?_
  have hk := exW_range (Q := Q) [[107]] (by omega)
  have hP0 : 0 < P := by omega
  have hm1 := Nat.mod_lt (exW Q [[107]] * r.v) hP0
  have hm2 := Nat.mod_lt (G ^ E) hP0
  obtain ⟨Bv, hBv⟩ : ∃ Bv, Bv = offB P Q G r.v E := ⟨_, rfl⟩
  have hB1 : (exW Q [[107]] * r.v % P + G ^ E % P) % P = Bv := by rw [hBv]; rfl
  have hBP : Bv < P := by rw [hBv]; exact Nat.mod_lt _ hP0
  have hSr : offS gB P Q G r.name salt r.v a E = keyedS ⟨gB, P, Q, G, r.name, .nils, a, Bv, E, roB salt, r.v, z16, z16⟩ salt ((a * (r.v ^ uI Q a Bv % P) % P) ^ E % P) := by rw [hBv]; rfl
  rw [← hBv, hSr]
  clear hSr hBv
  simp (disch := omega) [upd_eq, tyNum, tyGroup, tyRec]
  have s1 := rtimes (B := gB) (P := P) (Q := Q) (G := G) (a := exW Q [[107]]) (b := r.v) (by omega) (by omega) (by omega) hP0
  generalize exW Q [[107]] * r.v % P = M1 at *
  refine callT_of s1 (by simp [noRefs]) rfl ?_
  simp (disch := omega) [upd_eq, tyNum, tyGroup, tyRSide, e0]
  have s2 := rraise (B := gB) (P := P) (Q := Q) (G := G) (a := G) (e := E) (by omega) (by omega) (by omega) (by omega)
  generalize G ^ E % P = M2 at *
  refine callT_of s2 (by simp [noRefs]) rfl ?_
  simp (disch := omega) [upd_eq, tyNum, tyGroup]
  have s3 := rsum (a := M1) (b := M2) (m := P) (by omega) (by omega) (by omega) (by omega)
  rw [hB1] at s3
  refine callT_of s3 (by simp [noRefs]) rfl ?_
  have hBW : Bv < W := by omega
  obtain ⟨s1, hs1⟩ : ∃ s1 : SD, s1 = { s0 with b := Bv } := ⟨_, rfl⟩
  have e2 : s1.b = Bv := by rw [hs1]
  have e3 : s1.own = E := by rw [hs1]; exact e0
  have hs1' : s1 = ⟨gB, P, Q, G, r.name, .nils, a, Bv, E, roB salt, r.v, z16, z16⟩ := by rw [hs1, hs0]
  have ok1 : s1.ok := by rw [hs1']; exact ⟨rfl, rfl, rfl, rfl, rfl, rfl⟩
  rw [← hs1']
  simp (disch := omega) [upd_eq, tyNum, tyRSide]
  rw [← hs1]
  simp (disch := omega) [upd_eq, tyNum, tyRSide, e2, eql_num]
  by_cases h0 : Bv = 0
  · have hd0 : decide (Bv = 0) = true := by simpa using h0
    rw [hd0, if_pos h0]
    simp (disch := omega) [upd_eq, tyNum, tyRSide, build_side0, store_side side0_ok, putS_all side0_ok side0_ok, segS_all side0_ok, view_side _ side0_ok, resA_L Try.results17]
  · have hd0 : decide (Bv = 0) = false := by simpa using h0
    rw [hd0, if_neg h0]
    simp (disch := omega) [upd_eq, tyNum, tyRSide, tyGroup, tyRec, e2]
    refine callT_of (ru hG a Bv) (by simp [noRefs]) rfl ?_
    have hu : uI Q a Bv < W := by have := exW_range (Q := Q) [[117], numB a, numB Bv] (by omega); unfold uI; omega
    generalize uI Q a Bv = U at *
    simp (disch := omega) [upd_eq]
    have s4 := rraise (B := gB) (P := P) (Q := Q) (G := G) (a := r.v) (e := U) (by omega) hu (by omega) (by omega)
    have hm3 := Nat.mod_lt (r.v ^ U) hP0
    generalize r.v ^ U % P = M3 at *
    refine callT_of s4 (by simp [noRefs]) rfl ?_
    simp (disch := omega) [upd_eq]
    have s5 := rtimes (B := gB) (P := P) (Q := Q) (G := G) (a := a) (b := M3) (by omega) (by omega) (by omega) hP0
    have hm4 := Nat.mod_lt (a * M3) hP0
    generalize a * M3 % P = M4 at *
    refine callT_of s5 (by simp [noRefs]) rfl ?_
    simp (disch := omega) [upd_eq, tyNum]
    refine goT_region2 mixed [(82, 8)] 100 (by kernel_rfl) ?_
    simp (disch := omega) [upd_eq, tyNum, tyGroup, tyRSide, segS_all ok1, e3]
    have s6 := rraise (B := gB) (P := P) (Q := Q) (G := G) (a := M4) (e := E) (by omega) (by omega) (by omega) (by omega)
    generalize M4 ^ E % P = M5 at *
    refine callT_of s6 (by simp [noRefs]) rfl ?_
    simp (disch := omega) [upd_eq]
    have hs1s : s1.salt = roB salt := by rw [hs1']
    have hs1n : s1.name = r.name := by rw [hs1']
    refine callT_of (rkeyed ok1 hs1s hl (by rw [hs1n]; exact hn) M5) (by simp [noRefs, noRef_side ok1]) (by simp [noRef_side (keyedS_ok ok1 salt M5)]) ?_
    have okk := keyedS_ok ok1 salt M5
    simp (disch := omega) [upd_eq, tyNum, tyRSide, e2, store_side okk, putS_all side0_ok okk]
    refine ⟨by simp [dynOk, ptrNe, upd_eq], ?_⟩
    simp (disch := omega) [upd_eq, tyNum, tyRSide, segS_all okk, view_side _ okk, resA_L Try.results17]
end Go.Proofs.Ytgefihgogfkjoaa
