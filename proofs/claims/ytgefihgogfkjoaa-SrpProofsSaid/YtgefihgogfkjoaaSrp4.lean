/-
  Srp4: exponents of words, secrets, the verifier: the document's.
-/
import Derived.Test.YtgefihgogfkjoaaSrp3
set_option linter.unusedSimpArgs false
set_option linter.unusedVariables false
namespace Go.Proofs.Ytgefihgogfkjoaa
open Go.Am

theorem rexpo {B : Int} {P Q G : Nat} (hG : GOk P Q) (ls : List (List Int)) (hf : Few ls) (h0 : ls ≠ []) : ASpec Try.prog 33 [group B P Q G, roBB ls] (num (exW Q ls)) := by
  refine ASpec.start 1000 Try.func33 (fn := Try.f33) rfl (by decide) mixed (by kernel_rfl) (by simp) ?_
  have hQ := hG.lt
  have hQ2 := hG.two
  have hQl := hG.low
  obtain ⟨S, hS, hSB, hSl⟩ : ∃ S, S = macI [] ls ∧ IsB S ∧ S.length = 16 := ⟨_, rfl, isB_mac _ _, by simp⟩
  have hres : exW Q ls = exI Q S := by rw [hS]; rfl
  have s1 := rof ls hf.short h0
  rw [← hS] at s1
  rw [hres]
  simp (disch := omega) [ini, upd_eq, tyNum, tyGroup]
  refine callT_of s1 rfl (by simp) ?_
  simp (disch := omega) [upd_eq]
  refine callT_of (rbytesS S hSl) (by simp [noRefs]) rfl ?_
  simp (disch := omega) [upd_eq]
  refine callT_of (rexponent S (by omega) (by omega) (by omega)) (by simp [noRefs]) rfl ?_
  simp (disch := omega) [upd_eq, tyNum, resA_L Try.results33]
theorem rx {B : Int} {P Q G : Nat} (hG : GOk P Q) (name : ByteArray) (pass salt : List Int) (hn : name.size ≤ 100000) (hp : pass.length ≤ 100000) (hs : salt.length ≤ 100000) :
    ASpec Try.prog 63 [group B P Q G, .str name, roB pass, roB salt] (num (xI Q (strB name) pass salt)) := by
  refine ASpec.start 1000 Try.func63 (fn := Try.f63) rfl (by decide) mixed (by kernel_rfl) (by simp) ?_
  have hQ := hG.lt
  have hQ2 := hG.two
  have hQl := hG.low
  simp (disch := omega) [ini, upd_eq, tyNum, tyGroup, tySum, tyBB, tyBytes, tyStr, build1b]
  rw [convOwn_bl (l := [120]) (n := 1) (f := true) (by simp [upd_eq]) rfl]
  simp (disch := omega) [upd_eq, tyNum, tyGroup, tySum, tyBB, tyBytes, tyStr, convOwn_diff, conv_strB, buildBB3 (cellsA_roB _) (cellsA_roB _) (cellsA_roB _)]
  obtain ⟨S, hS, hSB, hSl⟩ : ∃ S, S = macI [] [[120], strB name, pass] ∧ IsB S ∧ S.length = 16 := ⟨_, rfl, isB_mac _ _, by simp⟩
  refine callT_view (r := smA S) ?_ (by simp) ?_
  · have hv := fun bk nt hb => view_parts (bk := bk) (nt := nt) (id := 3) (f := true) [[120], strB name, pass] hb
    have h1 := rof _ (few3 (a := [120]) (b := strB name) (c := pass) (by simp) (by simpa using hn) hp).short (by simp)
    rw [← hS] at h1
    simp only [List.map_cons, List.map_nil, List.length_cons, List.length_nil, Nat.zero_add, Nat.reduceAdd] at hv
    simp only [List.map_cons, List.map_nil]
    simp only [hv _ _ (show (upd _ 3 _) 3 = _ from upd_same _ _ _)]
    exact h1
  simp (disch := omega) [upd_eq, tySum, tyGroup, tyBytes, store_smA hSl, hSl, segA_bl hSl, putSeg_bl (l := z16) (m := S) (by simp [hSl])]
  refine callT_of (rbytesS S hSl) (by simp [noRefs]) rfl ?_
  simp (disch := omega) [upd_eq]
  obtain ⟨T, hT, hTB, hTl⟩ : ∃ T, T = stretchI S salt ∧ IsB T ∧ T.length = 16 := ⟨_, rfl, isB_stretch _ _, by simp⟩
  have h1 := rstretch S salt (by omega) (by omega)
  rw [← hT] at h1
  refine callT_of h1 rfl (by simp) ?_
  simp (disch := omega) [upd_eq]
  refine callT_of (rbytesS T hTl) (by simp [noRefs]) rfl ?_
  have hres : xI Q (strB name) pass salt = exI Q T := by rw [hT, hS]; rfl
  rw [hres]
  simp (disch := omega) [upd_eq]
  refine callT_of (rexponent T (by omega) (by omega) (by omega)) (by simp [noRefs]) rfl ?_
  simp (disch := omega) [upd_eq, tyNum, resA_L Try.results63]
theorem rk {B : Int} {P Q G : Nat} (hG : GOk P Q) : ASpec Try.prog 53 [group B P Q G] (num (exW Q [[107]])) := by
  refine ASpec.start 1000 Try.func53 (fn := Try.f53) rfl (by decide) mixed (by kernel_rfl) (by simp) ?_
  simp (disch := omega) [ini, upd_eq, tyNum, tyGroup, tyBB, tyBytes, build1b]
  rw [convOwn_bl (l := [107]) (n := 1) (f := true) (by simp [upd_eq]) rfl]
  simp (disch := omega) [upd_eq, tyNum, tyBB, buildBB1 (cellsA_roB _)]
  refine callT_view (r := num (exW Q [[107]])) ?_ (by simp) ?_
  · have hv := fun bk nt hb => view_parts (bk := bk) (nt := nt) (id := 3) (f := true) [[107]] hb
    have h1 := rexpo (B := B) (G := G) hG [[107]] (few1 (by simp)) (by simp)
    simp only [List.map_cons, List.map_nil, List.length_cons, List.length_nil, Nat.zero_add, Nat.reduceAdd] at hv
    simp only [List.map_cons, List.map_nil, view_group]
    simp only [hv _ _ (show (upd _ 3 _) 3 = _ from upd_same _ _ _)]
    exact h1
  simp (disch := omega) [upd_eq, tyNum, resA_L Try.results53]
noncomputable def uI (Q A B : Nat) : Nat := exW Q [[117], numB A, numB B]
theorem ru {B : Int} {P Q G : Nat} (hG : GOk P Q) (a b : Nat) : ASpec Try.prog 54 [group B P Q G, num a, num b] (num (uI Q a b)) := by
  refine ASpec.startX [1] 1000 Try.func54 (fn := Try.f54) rfl (by decide) mixed (by kernel_rfl) (by simp) ?_
  simp (disch := omega) [ini, upd_eq, tyNum, tyGroup]
  refine goT_regionZ mixed [8, 9, 14] 100 (by kernel_rfl) ?_
  simp (disch := omega) [upd_eq, tyBytes, tyBB, tyNum, tyGroup, noRefs, noRef, frzB1, frzCvB (l := [117]) (by simp)]
  refine callT_of (rbytesB a) rfl rfl ?_
  simp (disch := omega) [upd_eq, tyNum]
  refine callT_of (rbytesB b) rfl rfl ?_
  simp (disch := omega) [upd_eq, tyBB, noRefs, noRef, frzBB3]
  refine callT_of (rexpo hG [[117], numB a, numB b] (few3 (by simp) (by simp) (by simp)) (by simp)) (by simp [noRefs]) rfl ?_
  simp (disch := omega) [upd_eq, tyNum, resA_L Try.results54, uI]
theorem rsum {a b m : Nat} (ha : a < W) (hb : b < W) (hm : m < W) (h0 : m ≠ 0) : ASpec Try.prog 52 [num a, num b, num m] (num ((a + b) % m)) := by
  refine ASpec.start 1000 Try.func52 (fn := Try.f52) rfl (by decide) mixed (by kernel_rfl) (by simp) ?_
  simp (disch := omega) [ini, upd_eq, tyNum]
  obtain ⟨S, c, hS, hc, hSc, s1⟩ := raddR ha hb
  refine callT_of s1 rfl rfl ?_
  simp (disch := omega) [upd_eq, tyNum, tyUint, tyU32, tyInt, convOwn_diff, in_i64]
  have hW := W_big
  refine callT_of (rfromN c (by omega)) rfl rfl ?_
  simp (disch := omega) [upd_eq, tyNum]
  have s2 := rrestN (lo := S) (hi := c) hS (by omega) hm h0
  rw [hSc] at s2
  refine callT_of s2 rfl rfl ?_
  simp (disch := omega) [upd_eq, tyNum, resA_L Try.results52]
theorem rverifier {B : Int} {P Q G : Nat} (hG : GOk P Q) (hg : G < P) (name : ByteArray) (pass salt : List Int) (hn : name.size ≤ 100000) (hp : pass.length ≤ 100000) (hs : salt.length ≤ 100000) :
    ASpec Try.prog 22 [group B P Q G, .str name, roB pass, roB salt] (num (G ^ xI Q (strB name) pass salt % P)) := by
  refine ASpec.start 1000 Try.func22 (fn := Try.f22) rfl (by decide) mixed (by kernel_rfl) (by simp) ?_
  have hW := W_big
  have hQ := hG.lt
  have hQ2 := hG.two
  have hQl := hG.low
  have hx := exI_range (Q := Q) (stretchI (macI [] [[120], strB name, pass]) salt) (by omega)
  simp (disch := omega) [ini, upd_eq, tyNum, tyGroup, nthG3]
  refine callT_of (rx hG name pass salt hn hp hs) rfl rfl ?_
  have he : xI Q (strB name) pass salt < Q := by unfold xI; omega
  generalize xI Q (strB name) pass salt = E at *
  simp (disch := omega) [upd_eq]
  refine callT_of (rraise (a := G) (e := E) (by omega) (by omega) (by omega) (by omega)) (by simp [noRefs]) rfl ?_
  simp (disch := omega) [upd_eq, tyNum, resA_L Try.results22]
end Go.Proofs.Ytgefihgogfkjoaa
