/-
  Srp1: numbers of sums; exponents of bytes.
-/
import Derived.Test.YtgefihgogfkjoaaSponge13
import Derived.Test.YtgefihgogfkjoaaGroup6
import Derived.Test.YtgefihgogfkjoaaAmD
set_option linter.unusedSimpArgs false
set_option linter.unusedVariables false
namespace Go.Proofs.Ytgefihgogfkjoaa
open Go.Am

theorem roB_u8F {l : List Int} (h : IsB l) : roB l = .ro l.length (famL (u8F fun i => (gI l i).toNat) l.length) := by
  have e : bl l = famL (u8F fun i => (gI l i).toNat) l.length := by
    apply List.ext_getElem?
    intro i
    by_cases hi : i < l.length
    · rw [bl_get hi, famL_get _ _ _ hi]
      simp only [u8F]
      have := h.gI i
      congr 2; omega
    · rw [List.getElem?_eq_none (by simp; omega), List.getElem?_eq_none (by simp; omega)]
  rw [roB, e]
/-- the number that a sum is -/
def numI (l : List Int) : Nat := beV (fun i => (gI l i).toNat) 16
theorem gI8 {l : List Int} (h : IsB l) (i : Nat) : (gI l i).toNat < 256 := by have := h.gI i; omega
theorem numI_lt {l : List Int} (h : IsB l) : numI l < 340282366920938463463374607431768211456 := by
  have := beV_lt (n := 16) fun i (_ : i < 16) => gI8 h i
  exact this
theorem numI_W {l : List Int} (h : IsB l) : numI l < W := by
  have := numI_lt h
  have : (340282366920938463463374607431768211456 : Nat) < W := by decide +kernel
  omega
theorem read16 {l : List Int} (h : IsB l) (hl : l.length = 16) : ASpec Try.prog 110 [roB l] (.tup [num (numI l), .bool true]) := by
  have := read (fun i => (gI l i).toNat) 16 (fun i _ => gI8 h i)
  rw [roB_u8F h, hl]
  exact this
theorem rread16 {l : List Int} (h : IsB l) (hl : l.length = 16) : ASpec Try.prog 103 [roB l] (.tup [num (numI l), .bool true]) := by
  have := rread (fun i => (gI l i).toNat) 16 (fun i _ => gI8 h i)
  rw [roB_u8F h, hl]
  exact this
theorem gnumber {l : List Int} (h : IsB l) (hl : l.length = 16) : ASpec Try.prog 101 [smA l] (num (numI l)) := by
  refine ASpec.start 1000 Try.func101 (fn := Try.f101) rfl (by decide) mixed (by kernel_rfl) (by simp) ?_
  simp (disch := omega) [ini, upd_eq, tySum, tyNum, hl]
  refine callT_view (r := .tup [num (numI l), .bool true]) ?_ (by simp [flat, flats]) ?_
  · have hv := view_slb (bk := upd (upd noBk 0 (some ⟨bl l, true⟩)) 1 (some ⟨numL 0, true⟩)) (nt := 2) (id := 0) (f := true) (k := 16) (by simp [upd_eq]) hl
    simp only [List.map_cons, List.map_nil, hv]
    exact read16 h hl
  simp (disch := omega) [upd_eq, tyNum, resA_L Try.results101]
theorem rnumber {l : List Int} (h : IsB l) (hl : l.length = 16) : ASpec Try.prog 91 [smA l] (num (numI l)) := by
  refine ASpec.start 1000 Try.func91 (fn := Try.f91) rfl (by decide) mixed (by kernel_rfl) (by simp) ?_
  simp (disch := omega) [ini, upd_eq, tySum, tyNum, hl, segA_bl hl]
  refine callT_of (rbytesS l hl) (by simp [noRefs]) rfl ?_
  simp (disch := omega) [upd_eq]
  refine callT_of (rread16 h hl) rfl (by simp [noRef, noRefs]) ?_
  simp (disch := omega) [upd_eq, tyNum, resA_L Try.results91]
/-! ### Words -/
theorem frzB1 (x : Int) : (buildSliceA Try.prog ⟨1, 24, false, [.nils], .slice 5 1 false 1⟩ ⟨noBk, 0⟩ 1 [(0, .int .u8 x)]).bind frzOut = some (roB [x]) := by
  rw [build1b]
  exact frzOut_sl (f := true) (by simp [upd_eq]) (by simp) (by simp)
theorem frzB3 (x y z : Int) : (buildSliceA Try.prog ⟨1, 24, false, [.nils], .slice 5 1 false 1⟩ ⟨noBk, 0⟩ 3 [(0, .int .u8 x), (1, .int .u8 y), (2, .int .u8 z)]).bind frzOut = some (roB [x, y, z]) := by
  have e : buildSliceA Try.prog ⟨1, 24, false, [.nils], .slice 5 1 false 1⟩ ⟨noBk, 0⟩ 3 [(0, .int .u8 x), (1, .int .u8 y), (2, .int .u8 z)] = some (.sl 0 0 1 3, ⟨upd noBk 0 (some ⟨bl [x, y, z], true⟩), 1⟩) := by
    simp only [buildSliceA, tyU8]
    rfl
  rw [e]
  exact frzOut_sl (f := true) (by simp [upd_eq]) (by simp) (by simp)
def wordE : List Int := [101, 120, 112, 111, 110, 101, 110, 116]
theorem frzB8 : (buildSliceA Try.prog ⟨1, 24, false, [.nils], .slice 5 1 false 1⟩ ⟨noBk, 0⟩ 8 [(0, .int .u8 101), (1, .int .u8 120), (2, .int .u8 112), (3, .int .u8 111), (4, .int .u8 110), (5, .int .u8 101), (6, .int .u8 110), (7, .int .u8 116)]).bind frzOut = some (roB wordE) := by
  have e : buildSliceA Try.prog ⟨1, 24, false, [.nils], .slice 5 1 false 1⟩ ⟨noBk, 0⟩ 8 [(0, .int .u8 101), (1, .int .u8 120), (2, .int .u8 112), (3, .int .u8 111), (4, .int .u8 110), (5, .int .u8 101), (6, .int .u8 110), (7, .int .u8 116)] = some (.sl 0 0 1 8, ⟨upd noBk 0 (some ⟨bl wordE, true⟩), 1⟩) := by
    simp only [buildSliceA, tyU8]
    rfl
  rw [e]
  exact frzOut_sl (f := true) (by simp [upd_eq]) (by simp [wordE]) (by simp)
theorem frzCvB {l : List Int} (h : l ≠ []) : frzCv Try.prog ⟨1, 24, false, [.nils], .slice 5 1 false 1⟩ (roB l) = some (roB l) := by
  unfold roB
  refine frzCv_ro u8Tb ?_
  cases l with
  | nil => exact (h rfl).elim
  | cons b l => simp [bl]
theorem frzBB1 (l0 : List Int) : (buildSliceA Try.prog ⟨1, 24, false, [.nils], .slice 22 1 false 24⟩ ⟨noBk, 0⟩ 1 [(0, roB l0)]).bind frzOut = some (roBB [l0]) := by
  rw [buildBB1 (cellsA_roB l0)]
  exact frzOut_sl (f := true) (by simp [upd_eq]) (by simp) (by simp [noRefs])
theorem frzBB2 (l0 l1 : List Int) : (buildSliceA Try.prog ⟨1, 24, false, [.nils], .slice 22 1 false 24⟩ ⟨noBk, 0⟩ 2 [(0, roB l0), (1, roB l1)]).bind frzOut = some (roBB [l0, l1]) := by
  rw [buildBB2 (cellsA_roB l0) (cellsA_roB l1)]
  exact frzOut_sl (f := true) (by simp [upd_eq]) (by simp) (by simp [noRefs])
theorem frzBB3 (l0 l1 l2 : List Int) : (buildSliceA Try.prog ⟨1, 24, false, [.nils], .slice 22 1 false 24⟩ ⟨noBk, 0⟩ 3 [(0, roB l0), (1, roB l1), (2, roB l2)]).bind frzOut = some (roBB [l0, l1, l2]) := by
  rw [buildBB3 (cellsA_roB l0) (cellsA_roB l1) (cellsA_roB l2)]
  exact frzOut_sl (f := true) (by simp [upd_eq]) (by simp) (by simp [noRefs])
theorem frzBB5 (l0 l1 l2 l3 l4 : List Int) : (buildSliceA Try.prog ⟨1, 24, false, [.nils], .slice 22 1 false 24⟩ ⟨noBk, 0⟩ 5 [(0, roB l0), (1, roB l1), (2, roB l2), (3, roB l3), (4, roB l4)]).bind frzOut = some (roBB [l0, l1, l2, l3, l4]) := by
  rw [buildBB5 (cellsA_roB l0) (cellsA_roB l1) (cellsA_roB l2) (cellsA_roB l3) (cellsA_roB l4)]
  exact frzOut_sl (f := true) (by simp [upd_eq]) (by simp) (by simp [noRefs])

/-! ### Exponents -/
def exI (Q : Nat) (b : List Int) : Nat := numI (macI [] [wordE, b]) % (Q - 1) + 1
theorem exI_range {Q : Nat} (b : List Int) (h : 2 ≤ Q) : 1 ≤ exI Q b ∧ exI Q b ≤ Q - 1 := by
  have := Nat.mod_lt (numI (macI [] [wordE, b])) (show Q - 1 > 0 by omega)
  unfold exI
  omega
theorem small2 {a b : List Int} (h : a.length + b.length ≤ 300000000000) : Small [a, b] := ⟨by simp, by simp; omega⟩
theorem sub_one {Q : Nat} (h1 : 1 ≤ Q) (hQ : Q < W) : ASpec Try.prog 57 [num Q, num 1] (.tup [num (Q - 1), .int .u32 0]) := by
  have hW := W_big
  have := sub Q 1 hQ (by omega)
  rwa [show Q + W - 1 = Q - 1 + W by omega, Nat.add_mod_right, Nat.mod_eq_of_lt (show Q - 1 < W by omega), if_neg (by omega)] at this
theorem gexponent {B : Int} {P Q G : Nat} (b : List Int) (hQ : Q < 2147483648) (h2 : 3 ≤ Q) (hb : b.length ≤ 200000000000) : ASpec Try.prog 78 [group B P Q G, roB b] (num (exI Q b)) := by
  refine ASpec.startX [3] 1000 Try.func78 (fn := Try.f78) rfl (by decide) mixed (by kernel_rfl) (by simp) ?_
  have hW := W_big
  simp (disch := omega) [ini, upd_eq, tyNum, tyGroup]
  refine callT_of (fromN 1 (by omega)) rfl rfl ?_
  simp (disch := omega) [upd_eq, tyNum, tyGroup]
  refine callT_of (sub_one (by omega) (by omega)) rfl rfl ?_
  simp (disch := omega) [upd_eq, tyNum, tyGroup]
  refine goT_regionZ mixed [21, 22, 24] 100 (by kernel_rfl) ?_
  simp (disch := omega) [upd_eq, tyBytes, tyBB, noRefs, noRef, frzB8, frzCvB (l := wordE) (by simp [wordE]), frzBB2]
  have hsm : Small [wordE, b] := small2 (by simp [wordE]; omega)
  refine callT_of (of_ [wordE, b] hsm) rfl (by simp) ?_
  obtain ⟨S, hS, hSB, hSl⟩ : ∃ S, S = macI [] [wordE, b] ∧ IsB S ∧ S.length = 16 := ⟨_, rfl, isB_mac _ _, by simp⟩
  have hres : exI Q b = numI S % (Q - 1) + 1 := by rw [hS]; rfl
  rw [← hS, hres]
  simp (disch := omega) [upd_eq, tyNum]
  refine callT_of (gnumber hSB hSl) (by simp [noRefs]) rfl ?_
  have hN := numI_W hSB
  generalize numI S = X at *
  simp (disch := omega) [upd_eq, tyNum, build_num]
  have s2 := restN_ (lo := X) (hi := 0) (m := Q - 1) hN (by omega) (by omega) (by omega)
  rw [Nat.zero_mul, Nat.zero_add] at s2
  have hY := Nat.mod_lt X (show Q - 1 > 0 by omega)
  generalize X % (Q - 1) = Y at *
  refine callT_of s2 (by simp [noRefs]) rfl ?_
  simp (disch := omega) [upd_eq, tyNum]
  refine callT_of (add_small (a := Y) (b := 1) (by omega)) rfl rfl ?_
  simp (disch := omega) [upd_eq, tyNum, resA_L Try.results78]
theorem rexponent {B : Int} {P Q G : Nat} (b : List Int) (hQ : Q < 2147483648) (h2 : 3 ≤ Q) (hb : b.length ≤ 100000000000) : ASpec Try.prog 70 [group B P Q G, roB b] (num (exI Q b)) := by
  refine ASpec.startX [1] 1000 Try.func70 (fn := Try.f70) rfl (by decide) mixed (by kernel_rfl) (by simp) ?_
  have hW := W_big
  simp (disch := omega) [ini, upd_eq, tyNum, tyGroup]
  refine goT_regionZ mixed [6, 7, 9] 100 (by kernel_rfl) ?_
  simp (disch := omega) [upd_eq, tyBytes, tyBB, noRefs, noRef, frzB8, frzCvB (l := wordE) (by simp [wordE]), frzBB2]
  have hsh : Short [wordE, b] := ⟨small2 (by simp [wordE]; omega), by simp [partsI, wordE]; omega⟩
  refine callT_of (rof [wordE, b] hsh (by simp)) rfl (by simp) ?_
  obtain ⟨S, hS, hSB, hSl⟩ : ∃ S, S = macI [] [wordE, b] ∧ IsB S ∧ S.length = 16 := ⟨_, rfl, isB_mac _ _, by simp⟩
  have hres : exI Q b = numI S % (Q - 1) + 1 := by rw [hS]; rfl
  rw [← hS, hres]
  simp (disch := omega) [upd_eq, tyNum]
  refine callT_of (rnumber hSB hSl) (by simp [noRefs]) rfl ?_
  have hN := numI_W hSB
  generalize numI S = X at *
  simp (disch := omega) [upd_eq, tyNum, tyGroup, nthG2]
  refine callT_of (rsmall (n := Q) (by omega)) rfl rfl ?_
  simp (disch := omega) [upd_eq, in_i64]
  have s2 := rleft (a := X) (m := Q - 1) hN (by omega) (by omega)
  rw [show ((Q - 1 : Nat) : Int) = (Q : Int) - 1 by omega] at s2
  have hY := Nat.mod_lt X (show Q - 1 > 0 by omega)
  generalize X % (Q - 1) = Y at *
  refine callT_of s2 rfl rfl ?_
  simp (disch := omega) [upd_eq, in_i64]
  have s3 := rfromN (Y + 1) (by omega)
  rw [show ((Y + 1 : Nat) : Int) = (Y : Int) + 1 by omega] at s3
  refine callT_of s3 rfl rfl ?_
  simp (disch := omega) [upd_eq, tyNum, resA_L Try.results70]
end Go.Proofs.Ytgefihgogfkjoaa
