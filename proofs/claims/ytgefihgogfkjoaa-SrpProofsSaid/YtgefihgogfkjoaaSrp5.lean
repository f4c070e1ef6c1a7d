/-
  Srp5: a side.
-/
import Derived.Test.YtgefihgogfkjoaaSrp4
set_option linter.unusedSimpArgs false
set_option linter.unusedVariables false
namespace Go.Proofs.Ytgefihgogfkjoaa
open Go.Am

theorem gmixed {B : Int} {P Q G v : Nat} (hG : GOk P Q) (hv : v < W) : ASpec Try.prog 47 [group B P Q G, num v] (num (exW Q [[107]] * v % P)) := by
  refine ASpec.start 1000 Try.func47 (fn := Try.f47) rfl (by decide) mixed (by kernel_rfl) (by simp) ?_
  have hW := W_big
  have hQ := hG.lt
  have hQ2 := hG.two
  have hQl := hG.low
  simp (disch := omega) [ini, upd_eq, tyNum, tyGroup]
  have s1 := gexpo (B := B) (G := G) hG ⟨#[107]⟩ [] .nils (.inr ⟨rfl, rfl⟩) (few1 (by decide))
  have e1 : strB ⟨#[107]⟩ = [107] := rfl
  rw [e1] at s1
  have hx := exW_range (Q := Q) [[107]] (by omega)
  generalize exW Q [[107]] = K at *
  refine callT_of s1 (by simp [noRefs, noRef]) rfl ?_
  simp (disch := omega) [upd_eq, tyNum]
  refine callT_of (gtimes (a := K) (b := v) (by omega) hv (by omega) (by omega)) (by simp [noRefs]) rfl ?_
  simp (disch := omega) [upd_eq, tyNum, resA_L Try.results47]

/-! ### A side -/
structure SD where
  gB : Int
  gP : Nat
  gQ : Nat
  gG : Nat
  name : ByteArray
  pass : AV
  a : Nat
  b : Nat
  own : Nat
  salt : AV
  v : Nat
  key : List Int
  proof : List Int
noncomputable def sideH (s : SD) : List AV := groupL s.gB s.gP s.gQ s.gG ++ ([.str s.name, s.pass] ++ (numL s.a ++ (numL s.b ++ (numL s.own ++ (s.salt :: numL s.v)))))
noncomputable def sideL (s : SD) : List AV := sideH s ++ (bl s.key ++ bl s.proof)
noncomputable def side (s : SD) : AV := .agg (sideL s)
def side0 : SD := ⟨0, 0, 0, 0, ⟨#[]⟩, .nils, 0, 0, 0, .nils, 0, z16, z16⟩
def sideF : List (Nat × Nat × Bool) := [(0, 25, true), (25, 1, false), (26, 1, false), (27, 8, true), (35, 8, true), (43, 8, true), (51, 1, false), (52, 8, true), (60, 16, true), (76, 16, true)]
theorem tySide : tyI Try.prog 37 = some ⟨92, 328, true, sideL side0, .struct sideF⟩ := by unfold sideL sideH groupL side0; rw [numL_zero]; kernel_rfl
theorem tyRSide : tyI Try.prog 42 = some ⟨92, 328, true, sideL side0, .struct sideF⟩ := by unfold sideL sideH groupL side0; rw [numL_zero]; kernel_rfl
@[simp] theorem sideH_length (s : SD) : (sideH s).length = 60 := by simp [sideH]
/-- a side that can be: its bytes' lengths; its slices speak of no memory of the call's own -/
structure SD.ok (s : SD) : Prop where
  key : s.key.length = 16
  proof : s.proof.length = 16
  pass : noRef s.pass = true
  salt : noRef s.salt = true
  passL : leafOk s.pass = true
  saltL : leafOk s.salt = true
@[simp] theorem sideL_length {s : SD} (h : s.ok) : (sideL s).length = 92 := by simp [sideL, h.key, h.proof]
theorem noRefs_sideL {s : SD} (h : s.ok) : noRefs (sideL s) = true := by simp [sideL, sideH, noRefs_append, noRefs, noRef, h.pass, h.salt]
@[simp] theorem noRef_side {s : SD} (h : s.ok) : noRef (side s) = true := by simp [side, noRef, noRefs_sideL h]
theorem leaf_sideL {s : SD} (h : s.ok) : (sideL s).all leafOk = true := by
  simp only [sideL, sideH, List.all_append, List.all_cons, List.all_nil, leaf_groupL, leaf_numL, leaf_bl, h.passL, h.saltL, Bool.and_true, Bool.true_and]
  rfl
@[simp] theorem cellsA_side (s : SD) : cellsA (side s) = some (sideL s) := (rfl)
@[simp] theorem view_side {s : SD} (h : HP) (hs : s.ok) : view h (side s) = side s := by simp [side, view, noRefs_sideL hs]
theorem segA_left {a b : List AV} {off n : Nat} {r : AV} (h : segA a off n = some r) : segA (a ++ b) off n = some r := by
  unfold segA at h ⊢
  split at h
  · rename_i hl
    rw [if_pos (by rw [List.length_append]; omega), List.drop_append_of_le_length (by omega), List.take_append_of_le_length (by simp; omega)]
    exact h
  · cases h
theorem segA_right {a b : List AV} {off n : Nat} {r : AV} (k : Nat) (hk : a.length = k) (h : segA b off n = some r) : segA (a ++ b) (k + off) n = some r := by
  subst hk
  unfold segA at h ⊢
  split at h
  · rename_i hl
    rw [if_pos (by rw [List.length_append]; omega)]
    have : (a ++ b).drop (a.length + off) = b.drop off := by
      rw [List.drop_append, List.drop_of_length_le (by omega), List.nil_append]
      congr 1; omega
    rw [this]
    exact h
  · cases h
section
variable {s : SD} (hs : s.ok)
theorem segS_G : segA (sideL s) 0 25 = some (group s.gB s.gP s.gQ s.gG) := segA_left (segA_left (segG_all _ _ _ _))
theorem segS_GP : segA (sideL s) 1 8 = some (num s.gP) := segA_left (segA_left (segG_P _ _ _ _))
theorem segS_GQ : segA (sideL s) 9 8 = some (num s.gQ) := segA_left (segA_left (segG_Q _ _ _ _))
theorem segS_GG : segA (sideL s) 17 8 = some (num s.gG) := segA_left (segA_left (segG_G _ _ _ _))
theorem segS_A : segA (sideL s) 27 8 = some (num s.a) := segA_left (segA_right 25 (by simp) (segA_right (off := 0) 2 (by simp) (segA_left segA_num)))
theorem segS_B : segA (sideL s) 35 8 = some (num s.b) := segA_left (segA_right (off := 10) 25 (by simp) (segA_right (off := 8) 2 (by simp) (segA_right (off := 0) 8 (by simp) (segA_left segA_num))))
theorem segS_own : segA (sideL s) 43 8 = some (num s.own) := segA_left (segA_right (off := 18) 25 (by simp) (segA_right (off := 16) 2 (by simp) (segA_right (off := 8) 8 (by simp) (segA_right (off := 0) 8 (by simp) (segA_left segA_num)))))
theorem segS_v : segA (sideL s) 52 8 = some (num s.v) := segA_left (segA_right (off := 27) 25 (by simp) (segA_right (off := 25) 2 (by simp) (segA_right (off := 17) 8 (by simp) (segA_right (off := 9) 8 (by simp) (segA_right (off := 1) 8 (by simp) (by
  have : segA ([s.salt] ++ numL s.v) (1 + 0) 8 = some (num s.v) := segA_right 1 rfl segA_num
  exact this))))))
theorem segS_name : (sideL s)[25]? = some (.str s.name) := (rfl)
theorem segS_pass : (sideL s)[26]? = some s.pass := (rfl)
theorem segS_salt : (sideL s)[51]? = some s.salt := (rfl)
include hs
theorem segS_key : segA (sideL s) 60 16 = some (smA s.key) := segA_right (off := 0) 60 (by simp) (segA_left (segA_bl hs.key))
theorem segS_proof : segA (sideL s) 76 16 = some (smA s.proof) := segA_right (off := 16) 60 (by simp) (segA_right (off := 0) 16 (by simp [hs.key]) (segA_bl hs.proof))
theorem segS_all : segA (sideL s) 0 92 = some (side s) := segA_all (sideL_length hs)
end
theorem store_side {s : SD} (hs : s.ok) {b id off nt : Nat} {a : Bool} {z : List AV} {td : TD} {bk : Nat → Option Blk} : storeA ⟨92, b, a, z, td⟩ ⟨bk, nt⟩ (.ptr id off) (side s) = blkT (bk id) fun k => (putSeg k.cs off (sideL s)).map fun cs => ⟨upd bk id (some ⟨cs, k.fix⟩), nt⟩ :=
  store_agg (sideL_length hs) (leaf_sideL hs)
theorem putS_all {s t : SD} (hs : s.ok) (ht : t.ok) : putSeg (sideL s) 0 (sideL t) = some (sideL t) := putSeg_all (by simp [hs, ht])
theorem putSeg_left {a b vs a' : List AV} {off : Nat} (h : putSeg a off vs = some a') : putSeg (a ++ b) off vs = some (a' ++ b) := by
  unfold putSeg at h ⊢
  split at h
  · rename_i hl
    cases h
    rw [if_pos (by rw [List.length_append]; omega), List.take_append_of_le_length (by omega), List.drop_append_of_le_length (by omega)]
    simp
  · cases h
theorem putSeg_right {a b vs b' : List AV} {off : Nat} (k : Nat) (hk : a.length = k) (h : putSeg b off vs = some b') : putSeg (a ++ b) (k + off) vs = some (a ++ b') := by
  subst hk
  unfold putSeg at h ⊢
  split at h
  · rename_i hl
    cases h
    have h1 : (a ++ b).take (a.length + off) = a ++ b.take off := by
      rw [List.take_append, List.take_of_length_le (by omega)]
      congr 2; omega
    have h2 : (a ++ b).drop (a.length + off + vs.length) = b.drop (off + vs.length) := by
      rw [List.drop_append, List.drop_of_length_le (by omega), List.nil_append]
      congr 1; omega
    rw [if_pos (by rw [List.length_append]; omega), h1, h2]
    simp
  · cases h
section
variable {s : SD}
theorem putS_A (n : Nat) : putSeg (sideL s) 27 (numL n) = some (sideL { s with a := n }) := putSeg_left (putSeg_right (off := 2) 25 (by simp) (putSeg_right (off := 0) 2 rfl (putSeg_left putSeg_num)))
theorem putS_B (n : Nat) : putSeg (sideL s) 35 (numL n) = some (sideL { s with b := n }) := putSeg_left (putSeg_right (off := 10) 25 (by simp) (putSeg_right (off := 8) 2 rfl (putSeg_right (off := 0) 8 (by simp) (putSeg_left putSeg_num))))
theorem putS_salt (x : AV) : (sideL s).set 51 x = sideL { s with salt := x } := (rfl)
theorem putS_pass (x : AV) : (sideL s).set 26 x = sideL { s with pass := x } := (rfl)
theorem putS_key {k : List Int} (hs : s.key.length = 16) (hk : k.length = 16) : putSeg (sideL s) 60 (bl k) = some (sideL { s with key := k }) :=
  putSeg_right (off := 0) 60 (by simp) (putSeg_left (putSeg_all (by simp [hs, hk])))
theorem putS_proof {k : List Int} (hy : s.key.length = 16) (hs : s.proof.length = 16) (hk : k.length = 16) : putSeg (sideL s) 76 (bl k) = some (sideL { s with proof := k }) :=
  putSeg_right (off := 16) 60 (by simp) (putSeg_right (off := 0) 16 (by simp [hy]) (putSeg_all (by simp [hs, hk])))
end
theorem nthS0 : nth sideF 0 = some (0, 25, true) := rfl
theorem nthS1 : nth sideF 1 = some (25, 1, false) := rfl
theorem nthS2 : nth sideF 2 = some (26, 1, false) := rfl
theorem nthS3 : nth sideF 3 = some (27, 8, true) := rfl
theorem nthS4 : nth sideF 4 = some (35, 8, true) := rfl
theorem nthS5 : nth sideF 5 = some (43, 8, true) := rfl
theorem nthS6 : nth sideF 6 = some (51, 1, false) := rfl
theorem nthS7 : nth sideF 7 = some (52, 8, true) := rfl
theorem nthS8 : nth sideF 8 = some (60, 16, true) := rfl
theorem nthS9 : nth sideF 9 = some (76, 16, true) := rfl
attribute [simp] nthS0 nthS1 nthS2 nthS3 nthS4 nthS5 nthS6 nthS7 nthS8 nthS9 segS_G segS_GP segS_GQ segS_GG segS_A segS_B segS_own segS_v segS_name segS_pass segS_salt segS_key segS_proof segS_all putS_A putS_B putS_salt putS_pass
end Go.Proofs.Ytgefihgogfkjoaa
