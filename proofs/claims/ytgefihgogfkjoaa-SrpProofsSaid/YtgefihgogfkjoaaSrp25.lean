/-
  Srp25: SrpNames.
-/
import Derived.Test.YtgefihgogfkjoaaSrp24
set_option linter.unusedSimpArgs false
set_option linter.unusedVariables false
namespace Go.Proofs.Ytgefihgogfkjoaa
open Go.Am

theorem tyStrs : tyI Try.prog 73 = some ⟨1, 24, false, [.nils], .slice 9 1 false 16⟩ := by kernel_rfl
theorem convOwn_BS {h : HP} {x : AV} : convOwn Try.prog 22 9 h x = none := convOwn_diff (by decide)
theorem strA_size (cs : List AV) : (strA cs).size = cs.length := by
  have := congrArg List.length (strA_toList cs)
  rw [ba_toList, List.length_map] at this
  exact this
theorem buildS3 {bk : Nat → Option Blk} {nt : Nat} {x y z : ByteArray} : buildSliceA Try.prog ⟨1, 24, false, [.nils], .slice 9 1 false 16⟩ ⟨bk, nt⟩ 3 [(0, .str x), (1, .str y), (2, .str z)] = some (.sl nt 0 1 3, ⟨upd bk nt (some ⟨[.str x, .str y, .str z], true⟩), nt + 1⟩) := by
  simp only [buildSliceA, tyStr]
  rfl
theorem conv_S {s b : Nat} {a : Bool} {z : List AV} {s2 b2 : Nat} {a2 : Bool} {z2 : List AV} {h : HP} (l : List Int) : convA Try.prog ⟨s, b, a, z, .slice 5 1 false 1⟩ ⟨s2, b2, a2, z2, .str⟩ h (roB l) = some (.str (strA (bl l))) :=
  conv_str (n := l.length) (fun _ _ h => by cases h) (fun _ h => by cases h) rfl u8Tb (srcA_roB h l) (isU8_bl l)
theorem addS {t : TypeId} {x y : ByteArray} (h : x.size + y.size ≤ 4611686018427387904) : binA Try.prog .add t (.str x) (.str y) = some (.str (x ++ y)) := by
  simp only [binA, strOpA]
  rw [if_pos (by omega)]
theorem srpNames (n : Int) (name other : ByteArray) (pass salt : List Int) (cut : Int) : ASpec Try.prog 8 [.int .i64 n, .str name, .str other, roB pass, roB salt, .int .i64 cut] (.bool true) := by
  refine ASpec.start 1000 Try.func8 (fn := Try.f8) rfl (by decide) mixed (by kernel_rfl) (by simp) ?_
  have hW := W_big
  simp (disch := omega) [ini, upd_eq]
  refine callT_of known7 rfl rfl ?_
  simp (disch := omega) [upd_eq, tyStr, tyBytes, tyBB, convOwn_diff, conv_strB, buildBB4 (cellsA_roB _) (cellsA_roB _) (cellsA_roB _) (cellsA_roB _)]
  refine callT_view (r := .bool (decide (∀ l ∈ [strB name, strB other, pass, salt], l.length ≤ 64))) ?_ (by simp [flat]) ?_
  · have hv := fun bk nt hb => view_parts (bk := bk) (nt := nt) (id := 0) (f := true) [strB name, strB other, pass, salt] hb
    simp only [List.map_cons, List.map_nil, List.length_cons, List.length_nil, Nat.zero_add, Nat.reduceAdd] at hv
    simp only [List.map_cons, List.map_nil]
    rw [hv _ _ (by simp [upd_eq])]
    exact short _ (by simp)
  by_cases hsh : ∀ l ∈ [strB name, strB other, pass, salt], l.length ≤ 64
  case neg =>
    rw [decide_eq_false hsh]
    simp (disch := omega) [upd_eq, resA_L Try.results8, view, view1, noRef]
  rw [decide_eq_true hsh]
  have z1 := hsh (strB name) (by simp)
  have z2 := hsh (strB other) (by simp)
  have z3 := hsh pass (by simp)
  have z4 := hsh salt (by simp)
  rw [strB_length] at z1 z2
  obtain ⟨k, Q, N, hs, hk, g1⟩ := group_ n
  have hG : GOk (2 * Q + 1) Q := GOk.of hs hk
  have hP := hG.lt
  have step : ∀ (nm : ByteArray) (pw : List Int), nm.size ≤ 1000 → pw.length ≤ 1000 → ∃ v, v < W ∧ ASpec Try.prog 14 [group k (2 * Q + 1) Q 4, .str nm, roB pw, roB salt] (num v) ∧ ASpec Try.prog 22 [group k (2 * Q + 1) Q 4, .str nm, roB pw, roB salt] (num v) := by
    intro nm pw h1 h2
    have hl := hG.low
    refine ⟨_, ?_, gverifier hG (by omega) nm pw salt (by omega) (by omega) (by omega), rverifier hG (by omega) nm pw salt (by omega) (by omega) (by omega)⟩
    have := Nat.mod_lt (4 ^ xI Q (strB nm) pw salt) (show 2 * Q + 1 > 0 by omega)
    omega
  obtain ⟨c, hc, -, w1⟩ := within7N cut (pass.length + 1) (by omega) (by omega)
  rw [show ((pass.length + 1 : Nat) : Int) = (pass.length : Int) + 1 by omega] at w1
  generalize 2 * Q + 1 = P at *
  have hcl : c ≤ pass.length := by omega
  simp (disch := omega) [upd_eq]
  refine callT_of g1 rfl (by simp) ?_
  simp (disch := omega) [upd_eq, tyGroup, tyBytes, lenA_roB, in_i64]
  refine callT_of w1 rfl rfl ?_
  have sz : (strA (bl (pass.take c))).size ≤ 64 := by rw [strA_size, bl_length, List.length_take]; omega
  simp (disch := omega) [upd_eq, tyBytes, tyStr, tyStrs, tyBB, slice_to, slice_from, convOwn_BS, conv_S, addS, buildS3, buildBB3 (cellsA_roB _) (cellsA_roB _) (cellsA_roB _)]
  obtain ⟨T, hT⟩ : ∃ T, T = name ++ strA (bl (pass.take c)) := ⟨_, rfl⟩
  have hTs : T.size ≤ 1000 := by rw [hT, ByteArray.size_append]; omega
  rw [← hT]
  obtain ⟨v1, hv1, a1, b1⟩ := step name pass (by omega) (by omega)
  obtain ⟨v2, hv2, a2, b2⟩ := step other pass (by omega) (by omega)
  obtain ⟨v3, hv3, a3, b3⟩ := step T (pass.drop c) hTs (by rw [List.length_drop]; omega)
  refine goT_round mixed 100 ?_
  simp (disch := omega) [upd_eq, tyGroup, tyStr, tyStrs, tyBytes, tyBB]
  refine callT_of a1 (by simp [noRefs, noRef]) rfl ?_
  simp (disch := omega) [upd_eq, tyGroup, tyStr, tyStrs, tyBytes, tyBB]
  refine callT_of b1 (by simp [noRefs, noRef]) rfl ?_
  simp (disch := omega) [upd_eq, neq_num hv1 hv1, in_i64]
  refine goT_round mixed 100 ?_
  simp (disch := omega) [upd_eq, tyGroup, tyStr, tyStrs, tyBytes, tyBB]
  refine callT_of a2 (by simp [noRefs, noRef]) rfl ?_
  simp (disch := omega) [upd_eq, tyGroup, tyStr, tyStrs, tyBytes, tyBB]
  refine callT_of b2 (by simp [noRefs, noRef]) rfl ?_
  simp (disch := omega) [upd_eq, neq_num hv2 hv2, in_i64]
  refine goT_round mixed 100 ?_
  simp (disch := omega) [upd_eq, tyGroup, tyStr, tyStrs, tyBytes, tyBB]
  refine callT_of a3 (by simp [noRefs, noRef]) rfl ?_
  simp (disch := omega) [upd_eq, tyGroup, tyStr, tyStrs, tyBytes, tyBB]
  refine callT_of b3 (by simp [noRefs, noRef]) rfl ?_
  simp (disch := omega) [upd_eq, neq_num hv3 hv3, in_i64]
  refine goT_round mixed 100 ?_
  simp (disch := omega) [upd_eq, resA_L Try.results8, view, view1, noRef]
theorem law_SrpNames (n : Int) (name : ByteArray) (hn : name.size ≤ maxLen) (other : ByteArray) (ho : other.size ≤ maxLen) (f1 : Nat → Nat) (h1 : ∀ i, f1 i < 256) (n1 : Nat) (f2 : Nat → Nat) (h2 : ∀ i, f2 i < 256) (n2 : Nat) (cut : Int) :
    ASpec Try.prog 8 [.int .i64 n, .str name, .str other, .ro n1 (famL (u8F f1) n1), .ro n2 (famL (u8F f2) n2), .int .i64 cut] (.bool true) := by
  rw [fl_ro, fl_ro]
  exact srpNames n name other _ _ cut
end Go.Proofs.Ytgefihgogfkjoaa
