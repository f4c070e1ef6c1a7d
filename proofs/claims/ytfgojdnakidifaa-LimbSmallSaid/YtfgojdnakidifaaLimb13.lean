/-
  The statements' own words: known.
-/
import Derived.Test.YtfgojdnakidifaaLimb12
set_option linter.unusedSimpArgs false
set_option linter.unusedVariables false
namespace Go.Proofs.Ytfgojdnakidifaa
open Go.Am

section
variable {P : Program} {bk : Nat → Option Blk} {nt s b : Nat} {a : Bool} {z : List AV}
theorem build2 {e eb : Nat} {ea : Bool} {ie : TyI} (hi : tyI P e = some ie) (hsz : ie.size = 1) (hz : ie.zero.length = 1) {x0 x1 : Int} :
    buildSliceA P ⟨s, b, a, z, .slice e 1 ea eb⟩ ⟨bk, nt⟩ 2 [(0, .int .u8 x0), (1, .int .u8 x1)] = some (.sl nt 0 1 2, ⟨upd bk nt (some ⟨[.int .u8 x0, .int .u8 x1], true⟩), nt + 1⟩) := by
  obtain ⟨c, hc⟩ : ∃ c, ie.zero = [c] := by
    match h : ie.zero, hz with
    | [c], _ => exact ⟨c, rfl⟩
  have hf : fillA (fun j => some (j * 1, 1)) (zerosA [c] 2) [(0, .int .u8 x0), (1, .int .u8 x1)] = some [.int .u8 x0, .int .u8 x1] := by rfl
  simp only [buildSliceA, hi, hsz, hc, hf, HP.add]
  rfl
theorem build1 {e eb : Nat} {ea : Bool} {ie : TyI} (hi : tyI P e = some ie) (hsz : ie.size = 1) (hz : ie.zero.length = 1) {x0 : Int} :
    buildSliceA P ⟨s, b, a, z, .slice e 1 ea eb⟩ ⟨bk, nt⟩ 1 [(0, .int .u8 x0)] = some (.sl nt 0 1 1, ⟨upd bk nt (some ⟨[.int .u8 x0], true⟩), nt + 1⟩) := by
  obtain ⟨c, hc⟩ : ∃ c, ie.zero = [c] := by
    match h : ie.zero, hz with
    | [c], _ => exact ⟨c, rfl⟩
  have hf : fillA (fun j => some (j * 1, 1)) (zerosA [c] 1) [(0, .int .u8 x0)] = some [.int .u8 x0] := by rfl
  simp only [buildSliceA, hi, hsz, hc, hf, HP.add]
  rfl
end
theorem build0 {P : Program} {h : HP} {e eb es : Nat} {ea : Bool} {s b : Nat} {a : Bool} {z : List AV} {ie : TyI} (hi : tyI P e = some ie) (hsz : ie.size = es) (hz : ie.zero.length = es) :
    buildSliceA P ⟨s, b, a, z, .slice e es ea eb⟩ h 0 [] = some (.sl h.nt 0 es 0, h.add ⟨[], true⟩) := by
  simp [buildSliceA, hi, fillA, zerosA, hsz, hz]
theorem view_u8 {bk : Nat → Option Blk} {nt id off n m : Nat} {f : Nat → Nat} {fx : Bool} (hb : bk id = some ⟨famL (u8F f) m, fx⟩) (h : off + n ≤ m) :
    view ⟨bk, nt⟩ (.sl id off 1 n) = .ro n (famL (u8F fun i => f (off + i)) n) := by
  rw [view_sl hb (by simpa using h) (noRefs_u8F _ _), Nat.mul_one, famL_drop, famL_take (by omega)]
  rfl

theorem W_big : 18446744073709551616 < W := by unfold W; decide
theorem add_small {a b : Nat} (h : a + b < 18446744073709551616) : ASpec Try.prog 24 [num a, num b] (.tup [num (a + b), .int .u32 0]) := by
  have hW := W_big
  have := add a b (by omega) (by omega)
  rwa [Nat.mod_eq_of_lt (by omega), Nat.div_eq_of_lt (by omega)] at this
theorem fromN (n : Nat) (h : n < 9223372036854775808) : ASpec Try.prog 22 [.int .i64 (n : Nat)] (num n) := by
  have := from_ (n : Int) (by omega) (by omega)
  rwa [Int.toNat_natCast] at this

theorem known : ASpec Try.prog 15 [] (.bool true) := by
  refine ASpec.start 1000 Try.func15 (fn := Try.f15) rfl (by decide) mixed (by kernel_rfl) (by simp) ?_
  have hW := W_big
  simp (disch := omega) [ini, upd_eq, tyNum]
  refine callT_of (fromN 3 (by omega)) rfl rfl ?_
  simp (disch := omega) [upd_eq, tyNum]
  refine callT_of (fromN 4 (by omega)) rfl rfl ?_
  simp (disch := omega) [upd_eq, tyNum]
  refine callT_of (add_small (a := 3) (b := 4) (by omega)) rfl rfl ?_
  simp (disch := omega) [upd_eq, tyNum, tyBytes, tyU8, build2 tyU8 rfl rfl]
  have hr := read (fun i => if i = 0 then 1 else 0) 2 (fun i _ => by split <;> omega)
  rw [if_pos (by decide), show beV (fun i => if i = 0 then 1 else 0) 2 = 256 from rfl] at hr
  refine callT_view (by rw [List.map_cons, List.map_nil, view_sl (cs := [AV.int .u8 1, AV.int .u8 0]) (f := true) (by simp [upd_eq]) (by simp) (by simp [noRefs, noRef])]; exact hr) (by simp [flat, flats]) ?_
  simp (disch := omega) [upd_eq, tyNum]
  refine callT_of (fromN 256 (by omega)) rfl rfl ?_
  simp (disch := omega) [upd_eq, tyNum]
  refine callT_of (bytes 256) rfl rfl ?_
  simp (disch := omega) [upd_eq, tyNum]
  refine callT_of (fromN 8 (by omega)) rfl rfl ?_
  simp (disch := omega) [upd_eq, tyNum]
  refine callT_of (bits 8 (by omega)) rfl rfl ?_
  simp (disch := omega) [upd_eq, tyNum, show blen 8 = 4 by decide]
  refine callT_of (fromN 7 (by omega)) rfl rfl ?_
  simp (disch := omega) [upd_eq, tyNum, eql_num]
  refine callT_of (fromN 256 (by omega)) rfl rfl ?_
  have hb : (bytesL 256)[30]? = some (.int .u8 1) := by rw [bytesL, famL_get _ _ _ (by decide), byteF, byteN_def]; rfl
  have hne : ¬ bytesL 256 = [] := fun h => by rw [h] at hb; simp at hb
  simp (disch := omega) [upd_eq, tyNum, eql_num, tyBytes, tyU8, lenA, hb, hne, resA_L Try.results15]
end Go.Proofs.Ytfgojdnakidifaa
