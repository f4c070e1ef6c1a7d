/-
  Srp10: Offer.
-/
import Derived.Test.YtgefihgogfkjoaaSrp9
set_option linter.unusedSimpArgs false
set_option linter.unusedVariables false
namespace Go.Proofs.Ytgefihgogfkjoaa
open Go.Am

/-! ### A record -/
structure RD where
  proto : Int
  name : ByteArray
  salt : AV
  v : Nat
noncomputable def recL (r : RD) : List AV := [.int .i64 r.proto, .str r.name, r.salt] ++ (numL r.v ++ (numL 0 ++ [.nils, .int .i64 0, .int .i64 0, .int .i64 0]))
noncomputable def rec_ (r : RD) : AV := .agg (recL r)
def rec0 : RD := ⟨0, ⟨#[]⟩, .nils, 0⟩
def recF : List (Nat × Nat × Bool) := [(0, 1, false), (1, 1, false), (2, 1, false), (3, 8, true), (11, 8, true), (19, 1, false), (20, 1, false), (21, 1, false), (22, 1, false)]
theorem tyRec : tyI Try.prog 33 = some ⟨23, 160, true, recL rec0, .struct recF⟩ := by unfold recL rec0; rw [numL_zero]; kernel_rfl
@[simp] theorem recL_length (r : RD) : (recL r).length = 23 := by simp [recL]
theorem noRefs_recL {r : RD} (h : noRef r.salt = true) : noRefs (recL r) = true := by simp [recL, noRefs_append, noRefs, noRef, h]
theorem noRef_rec {r : RD} (h : noRef r.salt = true) : noRef (rec_ r) = true := by simp [rec_, noRef, noRefs_recL h]
@[simp] theorem cellsA_rec (r : RD) : cellsA (rec_ r) = some (recL r) := (rfl)
section
variable {r : RD}
@[simp] theorem segR_all : segA (recL r) 0 23 = some (rec_ r) := segA_all (recL_length r)
@[simp] theorem segR_name : (recL r)[1]? = some (.str r.name) := (rfl)
@[simp] theorem segR_salt : (recL r)[2]? = some r.salt := (rfl)
@[simp] theorem segR_v : segA (recL r) 3 8 = some (num r.v) := segA_right (off := 0) 3 rfl (segA_left segA_num)
theorem putR_v (n : Nat) : putSeg (recL r) 3 (numL n) = some (recL { r with v := n }) := putSeg_right (off := 0) 3 rfl (putSeg_left putSeg_num)
end
theorem nthR0 : nth recF 0 = some (0, 1, false) := rfl
theorem nthR1 : nth recF 1 = some (1, 1, false) := rfl
theorem nthR2 : nth recF 2 = some (2, 1, false) := rfl
theorem nthR3 : nth recF 3 = some (3, 8, true) := rfl
attribute [simp] nthR0 nthR1 nthR2 nthR3

/-! ### Offer -/
noncomputable def offB (P Q G v own : Nat) : Nat := (exW Q [[107]] * v % P + G ^ own % P) % P
noncomputable def offI (gB : Int) (P Q G : Nat) (name : ByteArray) (salt : List Int) (v a own : Nat) : SD := ⟨gB, P, Q, G, name, .nils, a, offB P Q G v own, own, roB salt, v, z16, z16⟩
/-- the server's secret -/
noncomputable def offK (P Q G v a own : Nat) : Nat := (a * (v ^ uI Q a (offB P Q G v own) % P) % P) ^ own % P
noncomputable def offS (gB : Int) (P Q G : Nat) (name : ByteArray) (salt : List Int) (v a own : Nat) : SD := keyedS (offI gB P Q G name salt v a own) salt (offK P Q G v a own)
theorem goffer_bad {gB : Int} {P Q G a : Nat} {r : RD} (draw : List Int) (hG : GOk P Q) (ha : a < W) (hv : r.v < W) (hs : noRef r.salt = true) (h : ¬ (HasP P Q a ∧ HasP P Q r.v)) :
    ASpec Try.prog 16 [group gB P Q G, rec_ r, num a, roB draw] (.tup [side side0, num 0, .bool false]) := by
  refine ASpec.startX [10] 1000 Try.func16 (fn := Try.f16) rfl (by decide) mixed (by kernel_rfl) (by simp) ?_
  have hW := W_big
  have hQ := hG.lt
  have hQ2 := hG.two
  have hQl := hG.low
  simp (disch := omega) [ini, upd_eq, tyNum, tySide, tyGroup, tyRec]
  refine callT_of (ghas ha (by omega) (by omega) (by omega) (by omega)) (by simp [noRefs]) rfl ?_
  by_cases h1 : HasP P Q a
  · have h2 : ¬ HasP P Q r.v := fun h2 => h ⟨h1, h2⟩
    simp (disch := omega) [upd_eq, tyNum, tySide, tyGroup, tyRec, h1]
    refine callT_of (ghas hv (by omega) (by omega) (by omega) (by omega)) (by simp [noRefs]) rfl ?_
    simp (disch := omega) [upd_eq, tyNum, tySide, h2, build_side0, store_side side0_ok, putS_all side0_ok side0_ok, segS_all side0_ok, view_side _ side0_ok, resA_L Try.results16]
  · simp (disch := omega) [upd_eq, tyNum, tySide, h1, build_side0, store_side side0_ok, putS_all side0_ok side0_ok, segS_all side0_ok, view_side _ side0_ok, resA_L Try.results16]
theorem offI_ok (gB : Int) (P Q G : Nat) (name : ByteArray) (salt : List Int) (v a own : Nat) : (offI gB P Q G name salt v a own).ok := ⟨rfl, rfl, rfl, rfl, rfl, rfl⟩
theorem build_offer {gB : Int} {P Q G a b own v : Nat} {name : ByteArray} {salt : AV} (hc : cellsA salt = some [salt]) : buildA ⟨92, 328, true, sideL side0, .struct sideF⟩ [(0, group gB P Q G), (1, .str name), (3, num a), (4, num b), (5, num own), (6, salt), (7, num v)] = some (side ⟨gB, P, Q, G, name, .nils, a, b, own, salt, v, z16, z16⟩) := by
  unfold buildA
  simp only
  rw [fill_step rfl (cellsA_group _ _ _ _) (by simp) (putS_G _ _ _ _), fill_step rfl (show cellsA (.str name) = some [.str name] from rfl) rfl (putS_name1 _),
    fill_step rfl (cellsA_num _) (by simp) (putS_A _), fill_step rfl (cellsA_num _) (by simp) (putS_B _), fill_step rfl (cellsA_num _) (by simp) (putS_own _), fill_step rfl hc rfl (putS_salt1 _), fill_step rfl (cellsA_num _) (by simp) (putS_v _)]
  rfl
theorem goffer {gB : Int} {P Q G a : Nat} {r : RD} {salt : List Int} (draw : List Int) (hG : GOk P Q) (hg : G < P) (hsalt : r.salt = roB salt) (hl : salt.length ≤ 100000) (hd : draw.length ≤ 100000) (hn : r.name.size ≤ 100000) (ha : HasP P Q a) (hv : HasP P Q r.v) :
    ASpec Try.prog 16 [group gB P Q G, rec_ r, num a, roB draw]
      (if offB P Q G r.v (exW Q [[98], draw]) = 0 then .tup [side side0, num 0, .bool false]
        else .tup [side (offS gB P Q G r.name salt r.v a (exW Q [[98], draw])), num (offB P Q G r.v (exW Q [[98], draw])), .bool true]) := by
  refine ASpec.startX [10] 1000 Try.func16 (fn := Try.f16) rfl (by decide) mixed (by kernel_rfl) (by simp) ?_
  have hW := W_big
  have hQ := hG.lt
  have hQ2 := hG.two
  have hQl := hG.low
  have haP := ha.2.1
  have hvP := hv.2.1
  simp (disch := omega) [ini, upd_eq, tyNum, tySide, tyGroup, tyRec]
  refine callT_of (ghas (by omega) (by omega) (by omega) (by omega) (by omega)) (by simp [noRefs]) rfl ?_
  simp (disch := omega) [upd_eq, tyNum, tySide, tyGroup, tyRec, ha]
  refine callT_of (ghas (by omega) (by omega) (by omega) (by omega) (by omega)) (by simp [noRefs]) rfl ?_
  simp (disch := omega) [upd_eq, tyNum, tySide, tyGroup, tyBB, hv, buildBB1 (cellsA_roB _)]
  have hx := exW_range (Q := Q) [[98], draw] (by omega)
  refine callT_view (r := num (exW Q [[98], draw])) ?_ (by simp) ?_
  · have hv := fun bk nt hb => view_parts (bk := bk) (nt := nt) (id := 5) (f := true) [draw] hb
    have s1 := gexpo (B := gB) (G := G) hG ⟨#[98]⟩ [draw] _ (.inl rfl) (few2 (by decide) hd)
    simp only [List.map_cons, List.map_nil, List.length_cons, List.length_nil, Nat.zero_add, Nat.reduceAdd] at hv
    simp only [List.map_cons, List.map_nil, view_group, view_str]
    simp only [hv _ _ (show (upd _ 5 _) 5 = _ from upd_same _ _ _)]
    exact s1
  generalize exW Q [[98], draw] = E at *
  simp (disch := omega) [upd_eq, tyNum, tyGroup, tyRec]
  refine callT_of (gmixed hG (show r.v < W by omega)) (by simp [noRefs]) rfl ?_
  simp (disch := omega) [upd_eq, tyNum, tyGroup, tyRec]
  have s2 := graise (B := gB) (P := P) (Q := Q) (G := G) (a := G) (e := E) (by omega) (by omega) (by omega) (by omega) (by omega)
  have hP0 : 0 < P := by omega
  have hm1 := Nat.mod_lt (exW Q [[107]] * r.v) hP0
  have hm2 := Nat.mod_lt (G ^ E) hP0
  obtain ⟨Bv, hBv⟩ : ∃ Bv, Bv = offB P Q G r.v E := ⟨_, rfl⟩
  have hB1 : (exW Q [[107]] * r.v % P + G ^ E % P) * 1 % P = Bv := by rw [hBv, Nat.mul_one]; rfl
  have hBP : Bv < P := by rw [hBv]; exact Nat.mod_lt _ hP0
  have hSr : offS gB P Q G r.name salt r.v a E = keyedS ⟨gB, P, Q, G, r.name, .nils, a, Bv, E, roB salt, r.v, z16, z16⟩ salt ((a * (r.v ^ uI Q a Bv % P) % P) ^ E % P) := by rw [hBv]; rfl
  rw [← hBv, hSr]
  clear hSr hBv
  generalize exW Q [[107]] * r.v % P = M1 at *
  generalize G ^ E % P = M2 at *
  refine callT_of s2 (by simp [noRefs]) rfl ?_
  simp (disch := omega) [upd_eq, tyNum, tyGroup]
  refine callT_of (add_small (a := M1) (b := M2) (by omega)) (by simp [noRefs]) rfl ?_
  simp (disch := omega) [upd_eq, tyNum, tyGroup]
  refine callT_of (fromN 1 (by omega)) rfl rfl ?_
  simp (disch := omega) [upd_eq, tyNum, tyGroup]
  have s3 := gtimes (B := gB) (P := P) (Q := Q) (G := G) (a := M1 + M2) (b := 1) (by omega) (by omega) (by omega) (by omega)
  rw [hB1] at s3
  refine callT_of s3 (by simp [noRefs]) rfl ?_
  have hBW : Bv < W := by omega
  simp (disch := omega) [upd_eq, tyNum, eql_num]
  by_cases h0 : Bv = 0
  · have hd0 : decide (Bv = 0) = true := by simpa using h0
    rw [hd0, if_pos h0]
    simp (disch := omega) [upd_eq, tyNum, tySide, build_side0, store_side side0_ok, putS_all side0_ok side0_ok, segS_all side0_ok, view_side _ side0_ok, resA_L Try.results16]
  · have hd0 : decide (Bv = 0) = false := by simpa using h0
    rw [hd0, if_neg h0]
    obtain ⟨s0, hs0⟩ : ∃ s0 : SD, s0 = ⟨gB, P, Q, G, r.name, .nils, a, Bv, E, roB salt, r.v, z16, z16⟩ := ⟨_, rfl⟩
    have ok0 : s0.ok := by rw [hs0]; exact ⟨rfl, rfl, rfl, rfl, rfl, rfl⟩
    have b0 := build_offer (gB := gB) (P := P) (Q := Q) (G := G) (a := a) (b := Bv) (own := E) (v := r.v) (name := r.name) (salt := roB salt) (cellsA_roB _)
    rw [← hs0] at b0 ⊢
    simp (disch := omega) [upd_eq, tyNum, tySide, tyGroup, tyRec, tyStr, tyBytes, hsalt]
    refine callT_of (gclone salt (by omega)) rfl rfl ?_
    simp (disch := omega) [upd_eq, tyNum, tySide, tyGroup, tyRec, b0, store_side ok0, putS_all side0_ok ok0, segS_all ok0]
    have sb := both (s := s0) ok0 (by rw [hs0]; exact hG)
    have e1 : uI s0.gQ s0.a s0.b = uI Q a Bv := by rw [hs0]
    rw [e1] at sb
    refine callT_of sb (by simp [noRefs, noRef_side ok0]) rfl ?_
    have hu : uI Q a Bv < W := by have := exW_range (Q := Q) [[117], numB a, numB Bv] (by omega); unfold uI; omega
    generalize uI Q a Bv = U at *
    simp (disch := omega) [upd_eq]
    have s4 := graise (B := gB) (P := P) (Q := Q) (G := G) (a := r.v) (e := U) (by omega) hu (by omega) (by omega) (by omega)
    have hm3 := Nat.mod_lt (r.v ^ U) hP0
    generalize r.v ^ U % P = M3 at *
    refine callT_of s4 (by simp [noRefs]) rfl ?_
    simp (disch := omega) [upd_eq]
    have s5 := gtimes (B := gB) (P := P) (Q := Q) (G := G) (a := a) (b := M3) (by omega) (by omega) (by omega) (by omega)
    have hm4 := Nat.mod_lt (a * M3) hP0
    generalize a * M3 % P = M4 at *
    refine callT_of s5 (by simp [noRefs]) rfl ?_
    simp (disch := omega) [upd_eq, tyNum]
    refine goT_region2 mixed [(14, 8)] 100 (by kernel_rfl) ?_
    simp (disch := omega) [upd_eq, tyNum, tyGroup, tySide, segS_all ok0]
    have s6 := graise (B := gB) (P := P) (Q := Q) (G := G) (a := M4) (e := E) (by omega) (by omega) (by omega) (by omega) (by omega)
    generalize M4 ^ E % P = M5 at *
    refine callT_of s6 (by simp [noRefs]) rfl ?_
    simp (disch := omega) [upd_eq]
    have hs0s : s0.salt = roB salt := by rw [hs0]
    have hs0n : s0.name = r.name := by rw [hs0]
    refine callT_of (keyed ok0 hs0s hl (by rw [hs0n]; exact hn) M5) (by simp [noRefs, noRef_side ok0]) (by simp [noRef_side (keyedS_ok ok0 salt M5)]) ?_
    have okk := keyedS_ok ok0 salt M5
    simp (disch := omega) [upd_eq, tyNum, tySide, store_side okk, putS_all side0_ok okk]
    refine ⟨by simp [dynOk, ptrNe, upd_eq], ?_⟩
    simp (disch := omega) [upd_eq, tyNum, tySide, segS_all okk, view_side _ okk, resA_L Try.results16]
end Go.Proofs.Ytgefihgogfkjoaa
