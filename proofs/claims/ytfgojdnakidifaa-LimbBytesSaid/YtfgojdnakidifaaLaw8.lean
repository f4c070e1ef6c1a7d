/-
  Statements of limb: bytes, there and back.
-/
import Derived.Test.YtfgojdnakidifaaLaw6
set_option linter.unusedSimpArgs false
set_option linter.unusedVariables false
namespace Go.Proofs.Ytfgojdnakidifaa
open Go.Am

theorem argsW {P : Program} {g : FuncId} {cs bs : List AV} {r : AV} (h : ASpec P g cs r) (hw : ∀ (M : Mem) (l : List Value), VRels M false bs l → VRels M false cs l) : ASpec P g bs r :=
  ⟨h.1, fun O w vs hO hv => h.2 O w vs hO (hw _ _ hv)⟩
theorem read_nils : ASpec Try.prog 18 [.nils] (.tup [num 0, .bool true]) := by
  have h := read (fun _ => 0) 0 (fun _ _ => by decide)
  refine argsW h ?_
  rintro M l ⟨v, vs, rfl, h1, h2⟩
  exact ⟨v, vs, rfl, ⟨none, 0, h1, Nat.le_refl _, .inl rfl⟩, h2⟩
theorem bytes_more (N : Nat) : bytesL N ++ [AV.int .u8 0] = famL (u8F fun j => if j < 32 then byteN N (31 - j) else 0) 33 := by
  rw [famL_succ]
  congr 1
theorem leaf_bytesL (N : Nat) : (bytesL N).all leafOk = true := leaf_u8F _ _
@[simp] theorem bytesL_length (N : Nat) : (bytesL N).length = 32 := by simp [bytesL]

set_option maxHeartbeats 2000000 in
set_option maxRecDepth 16000 in
theorem law_LimbBack (a : Int) (f : Nat → Int) (n : Nat) (g : Nat → Nat) (hg : ∀ i, g i < 256) (m : Nat) :
    ASpec Try.prog 3 [.int .i64 a, .ro n (famL (i64F f) n), .ro m (famL (u8F g) m)] (.bool true) := by
  refine ASpec.start 1000 Try.func3 (fn := Try.f3) rfl (by decide) mixed (by kernel_rfl) (by simp) ?_
  have h0W := W_big
  simp (disch := omega) [ini, upd_eq, tyNum]
  refine callT_of known rfl rfl ?_
  by_cases hm : 60 < m
  · simp (disch := omega) [upd_eq, tyNum, tyBytes, lenA, show (60 : Int) < m by omega, resA_L Try.results3]
  simp (disch := omega) [upd_eq, tyNum, tyBytes, lenA, show ¬ (60 : Int) < m by omega]
  refine callT_of (make a f n) rfl rfl ?_
  have hX := mkN_lt a f n
  generalize mkN a f n = X at *
  simp (disch := omega) [upd_eq, tyNum]
  refine callT_of (bytes X) rfl rfl ?_
  simp (disch := omega) [upd_eq, tyNum]
  have r1 := read (fun j => byteN X (31 - j)) 32 (fun _ _ => byteN_lt _ _)
  rw [if_pos (by decide), beV_num hX, ← bytesL_u8] at r1
  refine callT_of r1 rfl rfl ?_
  simp (disch := omega) [upd_eq, tyNum]
  refine callT_of (read g m (fun i _ => hg i)) rfl rfl ?_
  simp (disch := omega) [upd_eq, tyNum]
  refine callT_of (rread g m (fun i _ => hg i)) rfl rfl ?_
  have hRW : (if m ≤ 32 then beV g m else 0) < W := by
    split
    · rename_i h
      have h1 := beV_lt (f := g) (n := m) (fun i _ => hg i)
      exact Nat.lt_of_lt_of_le h1 (Nat.pow_le_pow_right (show 0 < 256 by decide) h)
    · omega
  generalize (if m ≤ 32 then beV g m else 0) = R at *
  simp (disch := omega) [upd_eq, tyNum, tyBytes, build0 tyU8 rfl rfl, build1 tyU8 rfl rfl]
  rw [append_own (f := true) (cs := []) (m := 32) (new := bytesL X) (by simp [upd_eq]) (by simp [srcA]) zOkU8 (by simp) (leaf_bytesL X) (by omega) (by omega)]
  simp (disch := omega) [upd_eq, tyNum, tyBytes, build0 tyU8 rfl rfl, build1 tyU8 rfl rfl]
  rw [append_own (f := false) (cs := bytesL X) (m := 1) (new := [AV.int .u8 0]) (by simp [upd_eq]) (by simp [upd_eq, srcA]) zOkU8 (by simp) rfl (by omega) (by omega)]
  have r2 := read (fun j => if j < 32 then byteN X (31 - j) else 0) 33 (fun j _ => by split; exact byteN_lt _ _; omega)
  rw [if_neg (by decide)] at r2
  simp (disch := omega) [upd_eq, tyNum, tyBytes, List.take_of_length_le, bytes_more]
  refine callT_view (by rw [List.map_cons, List.map_nil, view_u8 (f := fun j => if j < 32 then byteN X (31 - j) else 0) (m := 33) (fx := false) (by simp [upd_eq, List.take_of_length_le, bytes_more]) (by decide)]; simp only [Nat.zero_add]; exact r2) (by simp [flat, flats]) ?_
  simp (disch := omega) [upd_eq, tyNum, tyBytes, tyStr, conv_bytes]
  refine callT_of (rbytes X) rfl rfl ?_
  have hm32 : decide ((m : Int) ≤ 32) = decide (m ≤ 32) := by rw [Bool.eq_iff_iff]; simp only [decide_eq_true_eq]; omega
  simp (disch := omega) [upd_eq, tyNum, tyBytes, tyStr, conv_bytes]
  rw [str_eql hX hX]
  simp (disch := omega) [upd_eq, tyNum, eql_num hX hX, eql_num hRW hRW, isBool]
  rw [tyBytes, Option.bind_some]
  simp only [lenA, Option.map_some, bindV_some]
  simp only [put_some]
  simp only [opsV_some]
  simp only [slotT_zero, slotT_succ]
  simp only [gval_some]
  have hm32 : ((m : Int) ≤ 32) = (m ≤ 32) := by rw [eq_iff_iff]; omega
  simp (maxSteps := 30000) only [upd_eq, gval_bool, guardV_t, reduceCtorEq, Nat.reduceEqDiff, if_false, if_true, beq_self_eq_true, execV_binOp, ev_tmp, ev_int, ev_bool, binA_leq, bindV_some, put_some, put_none, opsV_some, opsV_none, opsV_nil, slotT_zero, slotT_succ, gval_some, binA_eqlb, isBool, hm32, pickA_bool, execV_pick, execV_move, execV_assign]
  simp (disch := omega) [upd_eq, resA_L Try.results3]
end Go.Proofs.Ytfgojdnakidifaa
