/-
  'Am', part 8: what a slice holds, conversions, len, copy, append, make.
-/
import Derived.Test.YtfgojdnakidifaaAmOps5
set_option linter.unusedSimpArgs false
set_option linter.unusedVariables false
namespace Go.Am
variable {P : Program} {X : Ctx} {h : HP} {M : Mem}

def byteAV (b : UInt8) : AV := .int .u8 (b.toNat : Int)

/-- How many elements a slice (or a string) has, and its cells ('es': cells of an element). -/
def srcA (es : Nat) (h : HP) : AV → Option (Nat × List AV)
  | .ro n cs => if cs.length = n * es then some (n, cs) else none
  | .nils => some (0, [])
  | .sl id off es' n => match h.bk id with
    | some k => if es = es' ∧ off + n * es ≤ k.cs.length then some (n, (k.cs.drop off).take (n * es)) else none
    | none => none
  | .str s => if es = 1 then some (s.size, s.data.toList.map byteAV) else none
  | _ => none

theorem VPre.toRels {M : Mem} {cs : List AV} {l : List Value} (h : VPre M cs l) : VRels M true cs (l.take cs.length) := (VPre.flag _ _ h).toRels

theorem bytes_rel (M : Mem) (r : Bool) : ∀ l : List UInt8, VRels M r (l.map byteAV) (l.map fun b => Value.int .u8 b.toNat)
  | [] => rfl
  | b :: l => ⟨_, _, rfl, rfl, bytes_rel M r l⟩

theorem srcA_length {es : Nat} {a : AV} {n : Nat} {cs : List AV} (hs : srcA es h a = some (n, cs)) : cs.length = n * es := by
  unfold srcA at hs
  split at hs
  · split at hs
    · cases hs; assumption
    · cases hs
  · cases hs; simp
  · split at hs
    · split at hs
      · rename_i hc
        cases hs
        rw [List.length_take, List.length_drop]; omega
      · cases hs
    · cases hs
  · split at hs
    · rename_i h1
      cases hs
      rw [h1, Nat.mul_one, List.length_map]
      rfl
    · cases hs
  · cases hs

/-- The first k elements of a slice, read. -/
theorem srcA_sound (H : HRel X h M) {es : Nat} {a : AV} {v : Value} (hv : VRel M true a v) {n : Nat} {cs : List AV} (hs : srcA es h a = some (n, cs)) :
    (Builtin.lenOf v).run P M.w = .ok n M.w ∧ ∀ k, k ≤ n → ∃ l, (∀ d, (Builtin.firstCells es k v).run P { M.w with drawn := d } = .ok ⟨l⟩ { M.w with drawn := d }) ∧ VRels M true (cs.take (k * es)) l := by
  have hlen := srcA_length hs
  unfold srcA at hs
  split at hs
  · rename_i n' cs'
    split at hs
    · rename_i hl
      cases hs
      obtain ⟨base, cap, rfl, hn, hcs⟩ := hv
      refine ⟨rfl, fun k hk => ?_⟩
      have hkn : k * es ≤ n * es := Nat.mul_le_mul_right _ hk
      rcases hcs with rfl | ⟨b, off, C, e, fz, rfl, hb, hfree, hpre⟩
      · have h0 : k * es = 0 := by rw [List.length_nil] at hl; omega
        cases base with
        | none => exact ⟨[], fun _ => rfl, by simp [VRels]⟩
        | some a => exact ⟨[], fun _ => by simp only [Builtin.firstCells, h0, loadCells, loadCellsFrom]; rfl, by simp [VRels]⟩
      · have hlp := hpre.length
        simp only [List.length_drop, Array.length_toList] at hlp
        by_cases h0 : k * es = 0
        · exact ⟨[], fun _ => by simp only [Builtin.firstCells, h0, loadCells, loadCellsFrom]; rfl, by simp [h0, VRels]⟩
        · refine ⟨(C.toList.drop off).take (k * es), fun dr => by simp only [Builtin.firstCells]; rw [run_loadCells_at P { M.w with drawn := dr } b off (k * es) C e fz hb (by omega)], ?_⟩
          have := (hpre.take (k * es)).toRels
          rwa [List.length_take, Nat.min_eq_left (by omega)] at this
    · cases hs
  · cases hs
    simp only [VRel] at hv
    subst hv
    refine ⟨rfl, fun k hk => ⟨[], fun _ => rfl, by simp [VRels]⟩⟩
  · rename_i id off es' n'
    split at hs
    · rename_i kb hk
      split at hs
      · rename_i hc
        obtain ⟨rfl, hc⟩ := hc
        cases hs
        have hD : M.D id := (H.dom id).2 (by simp [hk])
        obtain ⟨_, _, h6, h7⟩ := hv
        obtain ⟨cap, e, sz, rfl, hn, hsh, hcp⟩ := h7 hD
        obtain ⟨C, el, hb, hpre, _⟩ := H.bk id kb hk
        have hl := hpre.length
        simp only [Array.length_toList] at hl
        refine ⟨rfl, fun k hkn => ?_⟩
        have hkn' : k * es ≤ n * es := Nat.mul_le_mul_right _ hkn
        refine ⟨(C.toList.drop off).take (k * es), fun dr => by simp only [Builtin.firstCells]; rw [run_loadCells_at P { M.w with drawn := dr } _ off (k * es) C el (0, 0) hb (by omega)], ?_⟩
        have := ((hpre.drop off).take (k * es)).toRels
        rw [List.length_take, Nat.min_eq_left (by rw [List.length_drop]; omega)] at this
        rwa [List.take_take, Nat.min_eq_left hkn']
      · cases hs
    · cases hs
  · rename_i s
    split at hs
    · rename_i h1
      subst h1
      cases hs
      simp only [VRel] at hv
      subst hv
      refine ⟨rfl, fun k hk => ⟨(s.data.toList.take k).map fun b => Value.int .u8 b.toNat, ?_, ?_⟩⟩
      · intro dr
        simp only [Builtin.firstCells, Sem.run_pure]
        congr 1
        apply Array.ext'
        simp [ByteArray.extract, ByteArray.copySlice]
      · rw [Nat.mul_one, ← List.map_take]
        exact bytes_rel M true _
    · cases hs
  · cases hs

/-! ### len -/
def lenA (i : TyI) (h : HP) (a : AV) : Option Nat :=
  match i.td, a with
  | .str, .str s => some s.size
  | .array n _ _ _, _ => some n
  | .slice _ _ _ _, .ro n _ => some n
  | .slice _ _ _ _, .nils => some 0
  | .slice _ _ _ _, .sl id _ _ n => if (h.bk id).isSome = true then some n else none
  | _, _ => none

theorem len_sound (H : HRel X h M) {t ty : TypeId} {i : TyI} (hi : tyI P t = some i) {a : AV} {v : Value} (hv : VRel M true a v) {n : Nat} (hn : lenA i h a = some n) :
    (Builtin.len_ #[t] ty #[v]).run P M.w = .ok (.int .i64 n) M.w := by
  obtain ⟨d, hd, hd2, hd3⟩ := run_underlyingI M.w hi
  unfold lenA at hn
  split at hn
  · rename_i s htd
    obtain rfl := TD_str (hd3.symm.trans htd)
    cases hn
    simp only [VRel] at hv
    subst hv
    simp [Builtin.len_, hd, goInt]
  · rename_i n e es ea htd
    obtain ⟨rfl, _⟩ := TD_array (hd3.symm.trans htd)
    cases hn
    simp [Builtin.len_, hd, goInt]
  · rename_i n cs htd
    obtain ⟨rfl, _⟩ := TD_slice (hd3.symm.trans htd)
    cases hn
    obtain ⟨base, cap, rfl, _⟩ := hv
    simp [Builtin.len_, hd, goInt]
  · rename_i htd
    obtain ⟨rfl, _⟩ := TD_slice (hd3.symm.trans htd)
    cases hn
    simp only [VRel] at hv
    subst hv
    simp [Builtin.len_, hd, goInt]
  · rename_i id off es n htd
    obtain ⟨rfl, _⟩ := TD_slice (hd3.symm.trans htd)
    split at hn
    · rename_i hs
      cases hn
      obtain ⟨_, _, h6, h7⟩ := hv
      obtain ⟨cap, e, sz, rfl, _⟩ := h7 ((H.dom id).2 hs)
      simp [Builtin.len_, hd, goInt]
    · cases hn
  · cases hn

/-! ### copy -/
/-- copy into a slice of the call's own. -/
def copyA (i : TyI) (h : HP) (dst src : AV) : Option (AV × HP) :=
  match i.td, dst with
  | .slice _ es _ _, .sl id off es' n => match h.bk id, srcA es h src with
    | some k, some (m, cs) => if es = es' ∧ off + n * es ≤ k.cs.length ∧ cs.all leafOk = true then
        some (.int .i64 ((Nat.min m n : Nat) : Int), { h with bk := upd h.bk id (some ⟨k.cs.take off ++ cs.take (Nat.min m n * es) ++ k.cs.drop (off + (cs.take (Nat.min m n * es)).length), k.fix⟩) }) else none
    | _, _ => none
  | _, _ => none

theorem all_take {l : List AV} (h : l.all leafOk = true) (k : Nat) : (l.take k).all leafOk = true := by
  rw [List.all_eq_true] at h ⊢
  exact fun x hx => h x (List.mem_of_mem_take hx)

theorem copy_sound (H : HRel X h M) {t t2 ty : TypeId} {i : TyI} (hi : tyI P t = some i) {a b : AV} {va vb : Value} (ha : VRel M true a va) (hb : VRel M true b vb) {c : AV} {h' : HP}
    (hc : copyA i h a b = some (c, h')) : ∃ M' v, (Builtin.copy_ #[t, t2] ty #[va, vb]).run P M.w = .ok v M'.w ∧ M.le M' ∧ M'.O = M.O ∧ HRel X h' M' ∧ VRel M' true c v := by
  obtain ⟨d, hd, hd2, hd3⟩ := run_underlyingI M.w hi
  unfold copyA at hc
  split at hc
  · rename_i e es ea eb id off es' n htd
    obtain ⟨rfl, he⟩ := TD_slice (hd3.symm.trans htd)
    split at hc
    · rename_i k m cs hk hsrc
      split at hc
      · rename_i hcond
        obtain ⟨rfl, hle, hall⟩ := hcond
        cases hc
        have hD : M.D id := (H.dom id).2 (by simp [hk])
        obtain ⟨_, _, h6, h7⟩ := ha
        obtain ⟨cap, el, sz, rfl, hn, hsh, hcp⟩ := h7 hD
        obtain ⟨C, e', hC, hpre, hf⟩ := H.bk id k hk
        obtain ⟨hlen, hfc⟩ := srcA_sound (P := P) H hb hsrc
        obtain ⟨l, hl, hrel⟩ := hfc (Nat.min m n) (Nat.min_le_left _ _)
        have hll := hrel.length
        have hcl := srcA_length hsrc
        have hmn : Nat.min m n * es ≤ n * es := Nat.mul_le_mul_right _ (Nat.min_le_right _ _)
        have hmm : Nat.min m n * es ≤ m * es := Nat.mul_le_mul_right _ (Nat.min_le_left _ _)
        rw [List.length_take] at hll
        have hpl := hpre.length
        simp only [Array.length_toList] at hpl
        have hst := run_storeCells_at P (M.φ id) off e' l 0 C M.w hC (by omega) (leaves_oneCell hrel (all_take hall _))
        have hsz : (C.toList.take off ++ l ++ C.toList.drop (off + l.length)).toArray.size = C.size := by simp; omega
        have hle2 : off + (cs.take (Nat.min m n * es)).length ≤ k.cs.length := by rw [List.length_take]; omega
        have R := H.setRow hk hC (C' := (C.toList.take off ++ l ++ C.toList.drop (off + l.length)).toArray) hsz
          (k' := ⟨k.cs.take off ++ cs.take (Nat.min m n * es) ++ k.cs.drop (off + (cs.take (Nat.min m n * es)).length), k.fix⟩) (seg_rel off hpre hrel hle2) (fun hx => by
            have := hf hx
            rw [hsz]; simp only [List.length_append, List.length_take, List.length_drop] at hle2 ⊢; omega)
        refine ⟨_, .int .i64 (Nat.min m n : Nat), ?_, R.1, rfl, R.2, rfl⟩
        simp only [Nat.add_zero] at hst
        have hl := hl M.w.drawn
        simp only at hl
        simp [Builtin.copy_, hd, hlen, run_sizeOf_el he, hl, hst, goInt]
      · cases hc
    · cases hc
  · cases hc
end Go.Am
