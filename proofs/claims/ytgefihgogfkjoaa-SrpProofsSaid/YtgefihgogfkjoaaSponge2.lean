/-
  Sponge2: bytes that a sponge takes: the plain laws; numbers as eight bytes; one block.
-/
import Derived.Test.YtgefihgogfkjoaaSponge1
set_option linter.unusedSimpArgs false
set_option linter.unusedVariables false
namespace Go.Proofs.Ytgefihgogfkjoaa
open Go.Am

/-! ### Bytes -/
def u8A (b : Int) : AV := .int .u8 b
def bl (l : List Int) : List AV := l.map u8A
def roB (l : List Int) : AV := .ro l.length (bl l)
@[simp] theorem bl_length (l : List Int) : (bl l).length = l.length := by simp [bl]
@[simp] theorem noRefs_bl : ∀ l : List Int, noRefs (bl l) = true
  | [] => rfl
  | b :: l => by
    have := noRefs_bl l
    simp only [bl] at this
    simp [bl, noRefs, u8A, noRef, this]
@[simp] theorem leaf_bl (l : List Int) : (bl l).all leafOk = true := by simp [bl, u8A, leafOk]
@[simp] theorem isU8_bl (l : List Int) : (bl l).all isU8 = true := by simp [bl, u8A, isU8]
@[simp] theorem refsLts_bl (m : Nat) : ∀ l : List Int, refsLts m (bl l) = true
  | [] => rfl
  | b :: l => by
    have := refsLts_bl m l
    simp only [bl] at this
    simp [bl, refsLts, u8A, refsLt, this]
@[simp] theorem rens_bl (ρ : Nat → Nat) : ∀ l : List Int, rens ρ (bl l) = bl l
  | [] => rfl
  | b :: l => by
    have := rens_bl ρ l
    simp only [bl] at this
    simp [bl, rens, u8A, ren, this]
theorem bl_append (l m : List Int) : bl (l ++ m) = bl l ++ bl m := by simp [bl]
theorem bl_app (l m : List Int) : bl l ++ bl m = bl (l ++ m) := (bl_append l m).symm
@[simp] theorem leaf_mem (l : List Int) : (∀ (x : AV), x ∈ bl l → leafOk x = true) ↔ True := ⟨fun _ => trivial, fun _ x hx => by
  simp only [bl, List.mem_map] at hx
  obtain ⟨b, _, rfl⟩ := hx
  rfl⟩
theorem bl_take (l : List Int) (k : Nat) : (bl l).take k = bl (l.take k) := by simp [bl, List.map_take]
theorem bl_drop (l : List Int) (k : Nat) : (bl l).drop k = bl (l.drop k) := by simp [bl, List.map_drop]
def gI (l : List Int) (i : Nat) : Int := l.getD i 0
theorem bl_get {l : List Int} {i : Nat} (h : i < l.length) : (bl l)[i]? = some (.int .u8 (gI l i)) := by
  simp [bl, u8A, h, gI]
theorem bl_famL (f : Nat → Int) (n : Nat) : famL (fun i => .int .u8 (f i)) n = bl ((List.range n).map f) := by simp [bl, famL, u8A]
@[simp] theorem noRef_roB (l : List Int) : noRef (roB l) = true := rfl
@[simp] theorem leafOk_roB (l : List Int) : leafOk (roB l) = true := rfl
@[simp] theorem refsLt_roB (m : Nat) (l : List Int) : refsLt m (roB l) = true := rfl
@[simp] theorem ren_roB (ρ : Nat → Nat) (l : List Int) : ren ρ (roB l) = roB l := rfl
@[simp] theorem view_roB (h : HP) (l : List Int) : view h (roB l) = roB l := by simp [roB, view, view1, noRef]
theorem srcA_roB (h : HP) (l : List Int) : srcA 1 h (roB l) = some (l.length, bl l) := by simp [roB, srcA]
theorem lenA_roB {s b e es eb : Nat} {a ea : Bool} {z : List AV} {h : HP} (l : List Int) : lenA ⟨s, b, a, z, .slice e es ea eb⟩ h (roB l) = some l.length := rfl
theorem srcA_sl1 {bk : Nat → Option Blk} {nt id n : Nat} {cs : List AV} {f : Bool} (hb : bk id = some ⟨cs, f⟩) (hl : cs.length = n) : srcA 1 ⟨bk, nt⟩ (.sl id 0 1 n) = some (n, cs) := by
  subst hl
  simp [srcA, hb]
theorem u8Tb : u8T Try.prog 5 = true := by kernel_rfl
theorem tyBB : tyI Try.prog 54 = some ⟨1, 24, false, [.nils], .slice 22 1 false 24⟩ := by kernel_rfl
def z16 : List Int := List.replicate 16 0
@[simp] theorem z16_length : z16.length = 16 := rfl
theorem tySum : tyI Try.prog 35 = some ⟨16, 16, true, bl z16, .array 16 5 1 false⟩ := by kernel_rfl

/-! ### What a sponge takes -/
def ldw (a b c d : Int) : Int :=
  bitsA .or .u32 (bitsA .or .u32 (bitsA .or .u32 (IntKind.u32.wrap a) (IntKind.u32.wrap (IntKind.u32.wrap b * 2 ^ 8))) (IntKind.u32.wrap (IntKind.u32.wrap c * 2 ^ 16))) (IntKind.u32.wrap (IntKind.u32.wrap d * 2 ^ 24))
def ldW (l : List Int) (i : Nat) : Int := ldw (gI l (4 * i)) (gI l (4 * i + 1)) (gI l (4 * i + 2)) (gI l (4 * i + 3))
def blkF (f : Nat → Int) (l : List Int) (k : Nat) : Nat → Int := fun i => if i < k then x32 (f i) (ldW l i) else f i
def blockI (f : Nat → Int) (l : List Int) : Nat → Int := mixI (blkF f l 4)
def absorbN : Nat → (Nat → Int) → List Int → Nat → Int
  | 0, f, _ => f
  | n + 1, f, l => absorbN n (blockI f l) (l.drop 16)
def absorb (f : Nat → Int) (l : List Int) : Nat → Int := absorbN (l.length / 16) f l
def restI (l : List Int) : List Int := l.drop (16 * (l.length / 16))
theorem getD_append_left {l c : List Int} {i : Nat} (h : i < l.length) : gI (l ++ c) i = gI l i := by
  simp [gI, List.getD_eq_getElem?_getD, List.getElem?_append_left h]
theorem blkF_append {f : Nat → Int} {l c : List Int} (h : 16 ≤ l.length) : blkF f (l ++ c) 4 = blkF f l 4 := by
  funext i
  unfold blkF
  by_cases hi : i < 4
  · rw [if_pos hi, if_pos hi]
    unfold ldW
    rw [getD_append_left (by omega), getD_append_left (by omega), getD_append_left (by omega), getD_append_left (by omega)]
  · rw [if_neg hi, if_neg hi]
theorem blockI_append {f : Nat → Int} {l c : List Int} (h : 16 ≤ l.length) : blockI f (l ++ c) = blockI f l := by unfold blockI; rw [blkF_append h]
theorem blockI_take {f : Nat → Int} {l : List Int} (h : 16 ≤ l.length) : blockI f (l.take 16) = blockI f l := by
  have := blockI_append (f := f) (l := l.take 16) (c := l.drop 16) (by simp; omega)
  rw [List.take_append_drop] at this
  exact this.symm
theorem absorb_lt {f : Nat → Int} {l : List Int} (h : l.length < 16) : absorb f l = f := by
  unfold absorb
  rw [show l.length / 16 = 0 by omega]; rfl
theorem absorb_ge {f : Nat → Int} {l : List Int} (h : 16 ≤ l.length) : absorb f l = absorb (blockI f l) (l.drop 16) := by
  unfold absorb
  rw [List.length_drop, show l.length / 16 = (l.length - 16) / 16 + 1 by omega]
  rfl
theorem restI_lt {l : List Int} (h : l.length < 16) : restI l = l := by
  unfold restI
  rw [show l.length / 16 = 0 by omega]; rfl
theorem restI_ge {l : List Int} (h : 16 ≤ l.length) : restI l = restI (l.drop 16) := by
  unfold restI
  rw [List.length_drop, List.drop_drop, show 16 + 16 * ((l.length - 16) / 16) = 16 * (l.length / 16) by omega]
theorem restI_length (l : List Int) : (restI l).length < 16 := by unfold restI; rw [List.length_drop]; omega
theorem absorb_append : ∀ (n : Nat) (f : Nat → Int) (l c : List Int), l.length ≤ n → absorb f (l ++ c) = absorb (absorb f l) (restI l ++ c) ∧ restI (l ++ c) = restI (restI l ++ c)
  | 0, f, l, c, h => by
    obtain rfl : l = [] := List.eq_nil_of_length_eq_zero (by omega)
    exact ⟨rfl, rfl⟩
  | n + 1, f, l, c, h => by
    by_cases hl : l.length < 16
    · rw [absorb_lt hl, restI_lt hl]; exact ⟨rfl, rfl⟩
    · have hl : 16 ≤ l.length := by omega
      have e : (l ++ c).drop 16 = l.drop 16 ++ c := List.drop_append_of_le_length hl
      have hlc : 16 ≤ (l ++ c).length := by simp; omega
      have ih := absorb_append n (blockI f l) (l.drop 16) c (by simp; omega)
      rw [absorb_ge hlc, restI_ge hlc, absorb_ge hl, restI_ge hl, e, blockI_append hl]
      exact ih
theorem absorb_app (f : Nat → Int) (l c : List Int) : absorb f (l ++ c) = absorb (absorb f l) (restI l ++ c) := (absorb_append _ f l c (Nat.le_refl _)).1
theorem restI_app (l c : List Int) : restI (l ++ c) = restI (restI l ++ c) := (absorb_append _ (fun _ => 0) l c (Nat.le_refl _)).2

/-! ### Numbers as eight bytes -/
def eightI (n : Int) : List Int := (List.range 8).map fun i => IntKind.u8.wrap (n / 2 ^ (56 - 8 * i))
@[simp] theorem eightI_length (n : Int) : (eightI n).length = 8 := by simp [eightI]
def eightA (n : Int) (i : Nat) : AV := .int .u8 (IntKind.u8.wrap (n / 2 ^ (56 - 8 * i)))
theorem eightA_bl (n : Int) : famL (eightA n) 8 = bl (eightI n) := bl_famL _ _
theorem number (n : Int) : ASpec Try.prog 107 [.int .i64 n] (roB (eightI n)) := by
  refine ASpec.start 1000 Try.func107 (fn := Try.f107) rfl (by decide) mixed (by kernel_rfl) (by simp) ?_
  simp (disch := omega) [ini, upd_eq, tyBytes, tyU8, makeA, HP.add, lenA]
  refine goT_count (fun i => [(0, .int .i64 n), (3, .sl 0 0 1 8), (7, .int .i64 8), (8, .int .i64 (i : Nat))]) (fun i => [(0, ⟨mixL (eightA n) (fun _ => .int .u8 0) 8 i, true⟩)]) 1 8 ?_ ?_ ?_
  · intro i hi IH
    refine goT_round mixed 100 ?_
    have h0 : IntKind.i64.wrap (8 * (i : Int)) = 8 * (i : Int) := in_i64 (by omega) (by omega)
    have h1 : IntKind.i64.wrap (56 - 8 * (i : Int)) = ((56 - 8 * i : Nat) : Int) := by rw [in_i64 (by omega) (by omega)]; omega
    have e1 : min (56 - 8 * i) 64 = 56 - 8 * i := by omega
    have hset : ∀ v : AV, v = eightA n i → (mixL (eightA n) (fun _ => .int .u8 0) 8 i).set i v = mixL (eightA n) (fun _ => .int .u8 0) 8 (i + 1) := fun v hv => mixL_set hv
    simp (disch := omega) [st_eq, upd_eq, tyBytes, tyU8, tyInt, show (i : Int) < 8 by omega, hi, h0, h1, binA_shr, e1, IntKind.bits, store_int, in_i64]
    refine IH _ ⟨by simp [upd_eq, refsLt], ?_⟩
    simp [upd_eq]
    exact ⟨refsLts_mixL (fun _ => rfl) (fun _ => rfl), hset _ rfl⟩
  · refine goT_round mixed 100 ?_
    have hm : mixL (eightA n) (fun _ => AV.int .u8 0) 8 8 = bl (eightI n) := by rw [mixL_all, eightA_bl]
    simp only [hm]
    have hv : view ⟨bkl [(0, ⟨bl (eightI n), true⟩)], 1⟩ (.sl 0 0 1 8) = roB (eightI n) := by
      rw [view_sl (cs := bl (eightI n)) (f := true) (by simp) (by simp) (noRefs_bl _)]
      simp [roB, List.take_of_length_le]
    simp (disch := omega) [st_eq, upd_eq, resA_L Try.results107, hv]
  · exact ⟨by simp [upd_eq, refsLt], by simp [upd_eq, mixL_zero, zerosA]; exact ⟨rfl, rfl⟩⟩
theorem build1b {bk : Nat → Option Blk} {nt : Nat} {x : Int} : buildSliceA Try.prog ⟨1, 24, false, [.nils], .slice 5 1 false 1⟩ ⟨bk, nt⟩ 1 [(0, .int .u8 x)] = some (.sl nt 0 1 1, ⟨upd bk nt (some ⟨bl [x], true⟩), nt + 1⟩) := by
  simp only [buildSliceA, tyU8]
  rfl
theorem eightI_take (n : Int) (i : Nat) (h : i < 8) : (eightI n).take i ++ [IntKind.u8.wrap (n / 2 ^ (56 - 8 * i))] = (eightI n).take (i + 1) := by
  rw [List.take_add_one]
  congr 1
  simp [eightI, h]
theorem reight (n : Int) : ASpec Try.prog 93 [.int .i64 n] (roB (eightI n)) := by
  refine ASpec.start 1000 Try.func93 (fn := Try.f93) rfl (by decide) mixed (by kernel_rfl) (by simp) ?_
  have hc : ∀ (i : Nat), i < 8 → IntKind.i64.wrap (8 * (i : Int)) = 8 * (i : Int) ∧ IntKind.u64.wrap (IntKind.i64.wrap (56 - 8 * (i : Int))) = ((56 - 8 * i : Nat) : Int) ∧ min (56 - 8 * i) 64 = 56 - 8 * i := by
    intro i hi
    refine ⟨in_i64 (by omega) (by omega), ?_, by omega⟩
    rw [in_i64 (by omega) (by omega), in_u64 (by omega) (by omega)]; omega
  have c0 := hc 0 (by decide)
  simp (disch := omega) [ini, upd_eq, tyBytes, tyU8]
  refine goT_round mixed 100 ?_
  simp (disch := omega) [upd_eq, tyBytes, tyU8, tyInt, tyUint, convOwn_diff, binA_shr, IntKind.bits, build1b, in_i64, in_u64]
  simp (disch := omega) [upd_eq, appendA, appendB, srcA, zOkU8, HP.add, tyInt, in_i64, bl_take]
  refine goT_downR (X := Nat) (fun i => 8 - i) (fun i => [(0, .int .i64 n), (3, .sl 0 0 1 i), (4, .int .i64 (i : Nat))]) (fun i => [(0, ⟨bl ((eightI n).take i), false⟩)]) 1
    (fun i => 1 ≤ i ∧ i ≤ 8) ?_ 1 (fun k => if k = 0 then 1 else k) (by decide) ?_
  · rintro i ⟨hi1, hi⟩ IH
    refine goT_round mixed 100 ?_
    by_cases h8 : i = 8
    · subst h8
      have hv : view ⟨bkl [(0, ⟨bl ((eightI n).take 8), false⟩)], 1⟩ (.sl 0 0 1 8) = roB (eightI n) := by
        rw [view_sl (cs := bl ((eightI n).take 8)) (f := false) (by simp) (by simp) (noRefs_bl _)]
        simp [roB, List.take_of_length_le]
      simp (disch := omega) [st_eq, upd_eq, resA_L Try.results93, hv]
    · have hi8 : i < 8 := by omega
      obtain ⟨e1, e2, e3⟩ := hc i hi8
      have hl : ((eightI n).take i).length = i := by simp; omega
      have ht := eightI_take n i hi8
      simp (disch := omega) [st_eq, upd_eq, tyBytes, tyU8, tyInt, tyUint, show (i : Int) < 8 by omega, convOwn_diff, e1, e2, e3, binA_shr, IntKind.bits, build1b]
      simp (disch := omega) [upd_eq, appendA, appendB, srcA, zOkU8, HP.move, tyInt, in_i64, bl_take, hl, bl_app, show i ≤ 8 by omega, show i + 1 ≤ 70368744177664 by omega, show i + 1 ≤ 4611686018427387904 by omega]
      refine IH (i + 1) _ (fun k => if k = 0 then 2 else k) ⟨by omega, by omega⟩ (by omega) ⟨?_, ?_, ?_⟩
      · simp [upd_eq, ren, refsLt]
      · simp [upd_eq, List.take_take, ht]
      · simp
  · refine ⟨?_, ?_, ?_⟩
    · simp [upd_eq, ren, refsLt]
    · simp [upd_eq]
      rfl
    · simp
end Go.Proofs.Ytgefihgogfkjoaa
