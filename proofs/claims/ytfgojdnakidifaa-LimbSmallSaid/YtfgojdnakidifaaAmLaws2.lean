/-
  'Am', part 22: what slices, copy, append, len give.
-/
import Derived.Test.YtfgojdnakidifaaAmLoop
set_option linter.unusedSimpArgs false
set_option linter.unusedVariables false
namespace Go.Am
variable {P : Program}
section
variable {bk : Nat → Option Blk} {nt : Nat} {id off s b : Nat} {a : Bool} {z : List AV}
@[simp] theorem bnd_none {d l : Nat} : bnd none d l = some d := (rfl)
@[simp] theorem bnd_int {k : IntKind} {i : Int} {d l : Nat} : bnd (some (.int k i)) d l = if 0 ≤ i ∧ i ≤ l then some i.toNat else none := (rfl)
@[simp] theorem sliceA_arr {n e es : Nat} {ea : Bool} {lo hi mx : Option AV} : sliceA ⟨s, b, a, z, .array n e es ea⟩ ⟨bk, nt⟩ (.ptr id off) lo hi mx =
    blkT (bk id) fun k => if off + n * es ≤ k.cs.length ∧ (hi = none → mx = none) then (bnd mx n n).bind fun mB => (bnd hi n mB).bind fun hB => (bnd lo 0 hB).map fun l => winA id off es l hB else none := by
  simp only [sliceA, blkT]
  cases bk id with
  | none => rfl
  | some k =>
    simp only
    congr 1
    cases bnd mx n n with
    | none => rfl
    | some mB =>
      simp only [Option.bind_some]
      cases bnd hi n mB with
      | none => rfl
      | some hB =>
        simp only [Option.bind_some]
        cases bnd lo 0 hB <;> rfl
@[simp] theorem sliceA_sl {n e es eb : Nat} {ea : Bool} {lo hi mx : Option AV} : sliceA ⟨s, b, a, z, .slice e es ea eb⟩ ⟨bk, nt⟩ (.sl id off es n) lo hi mx =
    if (bk id).isSome = true ∧ (hi = none → mx = none) then (bnd mx n n).bind fun mB => (bnd hi n mB).bind fun hB => (bnd lo 0 hB).map fun l => winA id off es l hB else none := by
  simp only [sliceA, true_and]
  congr 1
  cases bnd mx n n with
  | none => rfl
  | some mB =>
    simp only [Option.bind_some]
    cases bnd hi n mB with
    | none => rfl
    | some hB =>
      simp only [Option.bind_some]
      cases bnd lo 0 hB <;> rfl
@[simp] theorem winA_zero {es h : Nat} : winA id off es 0 h = .sl id off es h := (rfl)
theorem winA_mid {es l h : Nat} (h0 : 0 < l) (h1 : l < h) : winA id off es l h = .sl id (off + l * es) es (h - l) := by
  simp [winA, show l ≠ 0 by omega, h1]
theorem winA_end {es l : Nat} (h0 : 0 < l) : winA id off es l l = .ro 0 [] := by
  simp [winA, show l ≠ 0 by omega]
@[simp] theorem blt_len {x : AV} {t : TypeId} {h : HP} : bltA P .len [x] [t] h = (tyI P t).bind fun i => (lenA i h x).map fun (n : Nat) => (.int .i64 (n : Int), h) := by
  simp only [bltA, withTy]
  cases tyI P t <;> rfl
@[simp] theorem blt_copy {x y : AV} {t t2 : TypeId} {h : HP} : bltA P .copy [x, y] [t, t2] h = (tyI P t).bind fun i => copyA i h x y := by
  simp only [bltA, withTy]
  cases tyI P t <;> rfl
@[simp] theorem blt_append {x y : AV} {t t2 : TypeId} {h : HP} : bltA P .append [x, y] [t, t2] h = (tyI P t).bind fun i => (tyI P t2).bind fun i2 => appendA P i i2 h x y := by
  simp only [bltA, withTy]
  cases tyI P t <;> cases tyI P t2 <;> rfl
/-- A copy of as many elements as the place has. -/
theorem copy_all {n e es eb m : Nat} {ea f : Bool} {cs new : List AV} {src : AV} (hb : bk id = some ⟨cs, f⟩) (hl : off + n * es ≤ cs.length) (hs : srcA es ⟨bk, nt⟩ src = some (m, new)) (hm : n ≤ m) (ha : new.all leafOk = true) :
    copyA ⟨s, b, a, z, .slice e es ea eb⟩ ⟨bk, nt⟩ (.sl id off es n) src = some (.int .i64 (n : Nat), ⟨upd bk id (some ⟨cs.take off ++ new.take (n * es) ++ cs.drop (off + n * es), f⟩), nt⟩) := by
  have h1 : Nat.min m n = n := Nat.min_eq_right hm
  have h2 := srcA_length hs
  have h3 : (new.take (n * es)).length = n * es := by
    rw [List.length_take, h2]
    exact Nat.min_eq_left (Nat.mul_le_mul_right _ hm)
  simp only [copyA, hb, hs, true_and, hl, ha, h1, h3, if_true]
end
theorem famL_take {f : Nat → AV} {n k : Nat} (h : k ≤ n) : (famL f n).take k = famL f k := by
  unfold famL
  rw [← List.map_take, List.take_range, Nat.min_eq_left h]
theorem famL_drop {f : Nat → AV} {n k : Nat} : (famL f n).drop k = famL (fun i => f (k + i)) (n - k) := by
  apply List.ext_getElem?
  intro j
  rw [List.getElem?_drop]
  by_cases hj : j < n - k
  · rw [famL_get _ _ _ (by omega), famL_get _ _ _ hj]
  · rw [List.getElem?_eq_none (by simp; omega), List.getElem?_eq_none (by simp; omega)]
end Go.Am
