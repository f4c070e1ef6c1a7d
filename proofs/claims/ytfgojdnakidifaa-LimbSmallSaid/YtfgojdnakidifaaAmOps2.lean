/-
  'Am', part 4: new blocks, parts, places, slices.
-/
import Derived.Test.YtfgojdnakidifaaAmOps
set_option linter.unusedSimpArgs false
set_option linter.unusedVariables false
namespace Go.Am

theorem elI_spec {P : Program} {t : TypeId} {s b : Nat} {a : Bool} (h : elI P t = some (s, b, a)) :
    ∃ i d, P.info? t = some i ∧ P.underlying t = some d ∧ i.size = s ∧ i.bytes = b ∧ isAggD d = a := by
  unfold elI at h
  split at h
  · rename_i i d h1 h2
    simp only [Option.some.injEq, Prod.mk.injEq] at h
    exact ⟨i, d, h1, h2, h.1, h.2.1, h.2.2⟩
  · cases h
theorem run_sizeOf_el {P : Program} {t : TypeId} {s b : Nat} {a : Bool} (h : elI P t = some (s, b, a)) (w : World) : (sizeOf t).run P w = .ok s w := by
  obtain ⟨i, d, h1, h2, h3, h4, h5⟩ := elI_spec h
  simp [sizeOf, typeInfo, h1, h3]
theorem run_isAgg_el {P : Program} {t : TypeId} {s b : Nat} {a : Bool} (h : elI P t = some (s, b, a)) (w : World) : (isAgg t).run P w = .ok a w := by
  obtain ⟨i, d, h1, h2, h3, h4, h5⟩ := elI_spec h
  rw [← h5]
  cases d <;> simp [isAgg, underlying, h2, isAggD]

theorem TD_slice {P : Program} {d : TypeDesc} {e : TypeId} {es eb : Nat} {ea : Bool} (h : TD.of P d = .slice e es ea eb) : d = .slice e ∧ elI P e = some (es, eb, ea) := by
  cases d <;> simp only [TD.of] at h <;> try (cases h; done)
  all_goals (split at h <;> cases h)
  exact ⟨rfl, by assumption⟩
theorem TD_array {P : Program} {d : TypeDesc} {n : Nat} {e : TypeId} {es : Nat} {ea : Bool} (h : TD.of P d = .array n e es ea) : d = .array n e ∧ ∃ eb, elI P e = some (es, eb, ea) := by
  cases d <;> simp only [TD.of] at h <;> try (cases h; done)
  all_goals (split at h <;> cases h)
  exact ⟨rfl, _, by assumption⟩
theorem fieldsI_spec {P : Program} : ∀ {fs : List Field} {r : List (Nat × Nat × Bool)}, fieldsI P fs = some r → ∀ (j o s : Nat) (a : Bool), r[j]? = some (o, s, a) →
    ∃ f b, fs[j]? = some f ∧ f.offset = o ∧ elI P f.type = some (s, b, a)
  | [], r, h, j, o, s, a, hj => by simp [fieldsI] at h; subst h; simp at hj
  | f :: fs, r, h, j, o, s, a, hj => by
    unfold fieldsI at h
    split at h
    · rename_i s' b' a' r' h1 h2
      cases h
      cases j with
      | zero => simp at hj; obtain ⟨rfl, rfl, rfl⟩ := hj; exact ⟨f, b', rfl, rfl, h1⟩
      | succ j => simpa using fieldsI_spec h2 j o s a (by simpa using hj)
    · cases h
theorem TD_struct {P : Program} {d : TypeDesc} {fs : List (Nat × Nat × Bool)} (h : TD.of P d = .struct fs) : ∃ F, d = .struct F ∧ fieldsI P F.toList = some fs := by
  cases d <;> simp only [TD.of] at h <;> try (cases h; done)
  all_goals (split at h <;> cases h)
  exact ⟨_, rfl, by assumption⟩
theorem TD_int {P : Program} {d : TypeDesc} {k : IntKind} (h : TD.of P d = .int k) : d = .int k := by
  cases d <;> simp only [TD.of] at h <;> try (cases h; done)
  all_goals first | (split at h <;> cases h) | (cases h; rfl)
theorem TD_bool {P : Program} {d : TypeDesc} (h : TD.of P d = .bool) : d = .bool := by
  cases d <;> simp only [TD.of] at h <;> try (cases h; done)
  all_goals first | rfl | (split at h <;> cases h)
theorem TD_str {P : Program} {d : TypeDesc} (h : TD.of P d = .str) : d = .string := by
  cases d <;> simp only [TD.of] at h <;> try (cases h; done)
  all_goals first | rfl | (split at h <;> cases h)

/-! ### New blocks -/
theorem ptr_new (M : Mem) (o : Obj) : VRel (M.add o) true (.ptr M.n 0) (.pointer (some ⟨M.w.heap.size, 0, none⟩)) :=
  ⟨rfl, rfl, Nat.lt_succ_self _, fun _ => by show _ = Value.pointer (some ⟨upd M.φ M.n M.w.heap.size M.n, 0, none⟩); rw [upd_same]⟩

theorem alloc_sound {P : Program} {X : Ctx} {h : HP} {M : Mem} (H : HRel X h M) {t : TypeId} {i : TyI} (hi : tyI P t = some i) :
    ∃ M' v, (Instr.alloc t true (.tuple #[])).run P M.w = .ok v M'.w ∧ M.le M' ∧ M'.O = M.O ∧ HRel X (h.add ⟨i.zero, true⟩) M' ∧ VRel M' true (.ptr h.nt 0) v := by
  obtain ⟨z, hz, hzz⟩ := run_zeroValue M.w hi
  refine ⟨M.add (.cells z.cells t (0, 0)), .pointer (some ⟨M.w.heap.size, 0, none⟩), ?_, H.add_le _, rfl,
    H.add (k := ⟨i.zero, true⟩) (by rw [hzz]; exact (map_cellAV_rel M true _).toPre) (fun _ => by rw [hzz]; simp), by rw [← H.n]; exact ptr_new _ _⟩
  simp [Instr.alloc, hz, newVar, newRow]
  rfl

def cellsA : AV → Option (List AV)
  | .agg cs => some cs
  | a => if leafOk a then some [a] else none
theorem cellsA_rel {M : Mem} {a : AV} {v : Value} {cs : List AV} (h : VRel M true a v) (hc : cellsA a = some cs) : VRels M true cs v.cells.toList := by
  unfold cellsA at hc
  split at hc
  · cases hc
    obtain ⟨l, rfl, hl⟩ := h
    exact hl
  · split at hc
    · rename_i hl
      cases hc
      rw [leaf_cells h hl]
      exact ⟨v, [], rfl, h, rfl⟩
    · cases hc

theorem box_sound {P : Program} {X : Ctx} {h : HP} {M : Mem} (H : HRel X h M) {t : TypeId} {a : AV} {u : Value} (ha : VRel M true a u) {cs : List AV} (hc : cellsA a = some cs) :
    ∃ M' v, (Instr.box t u).run P M.w = .ok v M'.w ∧ M.le M' ∧ M'.O = M.O ∧ HRel X (h.add ⟨cs, true⟩) M' ∧ VRel M' true (.ptr h.nt 0) v := by
  have hr := cellsA_rel ha hc
  refine ⟨M.add (.cells u.cells t (0, 0)), .pointer (some ⟨M.w.heap.size, 0, none⟩), ?_, H.add_le _, rfl,
    H.add (k := ⟨cs, true⟩) hr.toPre (fun _ => by have := hr.length; simpa using this), by rw [← H.n]; exact ptr_new _ _⟩
  simp [Instr.box, newVar, newRow]
  rfl

/-! ### Literals -/
/-- Parts laid into cells; 'pl': where part i lies, and how many cells it takes. -/
def fillA (pl : Nat → Option (Nat × Nat)) (cells : List AV) : List (Nat × AV) → Option (List AV)
  | [] => some cells
  | (i, a) :: rest => match pl i, cellsA a with
    | some (o, s), some vs => if vs.length = s ∧ o + s ≤ cells.length then fillA pl (cells.take o ++ vs ++ cells.drop (o + s)) rest else none
    | _, _ => none

theorem foldl_setSeg (vs : Array Value) (o : Nat) (cs : Array Value) (h : o + vs.size ≤ cs.size) :
    (vs.zipIdx.foldl (fun cs (x : Value × Nat) => cs.setIfInBounds (o + x.2) x.1) cs).toList = cs.toList.take o ++ vs.toList ++ cs.toList.drop (o + vs.size) := by
  obtain ⟨vs⟩ := vs
  obtain ⟨cs⟩ := cs
  simp only [List.size_toArray] at h
  have key : ∀ (vs : List Value) (j : Nat) (cs : List Value), o + j + vs.length ≤ cs.length →
      ((vs.zipIdx j).foldl (fun (cs : Array Value) (x : Value × Nat) => cs.setIfInBounds (o + x.2) x.1) cs.toArray).toList = cs.take (o + j) ++ vs ++ cs.drop (o + j + vs.length) := by
    intro vs
    induction vs with
    | nil => intro j cs _; simp
    | cons v vs ih =>
      intro j cs hle
      simp only [List.length_cons] at hle
      simp only [List.zipIdx_cons, List.foldl_cons, List.setIfInBounds_toArray]
      rw [ih (j + 1) (cs.set (o + j) v) (by simp; omega)]
      have h1 : (cs.set (o + j) v).take (o + (j + 1)) = cs.take (o + j) ++ [v] := by
        rw [show o + (j + 1) = (o + j) + 1 by omega, List.take_add_one, List.take_set_of_le (Nat.le_refl _)]
        simp [show o + j < cs.length by omega]
      have h2 : (cs.set (o + j) v).drop (o + (j + 1) + vs.length) = cs.drop (o + j + (vs.length + 1)) := by
        rw [List.drop_set_of_lt (by omega), show o + (j + 1) + vs.length = o + j + (vs.length + 1) by omega]
      rw [h1, h2]
      simp
  have := key vs 0 cs (by simpa using h)
  simpa using this

theorem fill_sound {M : Mem} {pl : Nat → Option (Nat × Nat)} : ∀ (ps : List (Nat × AV)) (qs : List (Nat × Value)) (cells : List AV) (C : Array Value) (r : List AV),
    (∀ (j i : Nat) (a : AV), ps[j]? = some (i, a) → ∃ v, qs[j]? = some (i, v) ∧ VRel M true a v) → qs.length = ps.length → VRels M true cells C.toList → fillA pl cells ps = some r →
    ∃ R, Instr.fill pl C qs = some R ∧ VRels M true r R.toList
  | [], [], cells, C, r, _, _, hc, hr => by cases hr; exact ⟨C, rfl, hc⟩
  | [], _ :: _, _, _, _, _, hl, _, _ => by simp at hl
  | _ :: _, [], _, _, _, _, hl, _, _ => by simp at hl
  | (i, a) :: ps, (i', v) :: qs, cells, C, r, hps, hl, hc, hr => by
    obtain ⟨u, hu, hrel⟩ := hps 0 i a rfl
    simp only [List.getElem?_cons_zero, Option.some.injEq, Prod.mk.injEq] at hu
    obtain ⟨h1, h2⟩ := hu
    subst h1 h2
    unfold fillA at hr
    split at hr
    · rename_i o s vs hpl hvs
      split at hr
      · rename_i hle
        have hv := cellsA_rel hrel hvs
        have hvl := hv.length
        have hcl := hc.length
        simp only [Array.length_toList] at hvl hcl
        have hseg := foldl_setSeg v.cells o C (by omega)
        have hcond : ¬ (v.cells.size ≠ s ∨ o + v.cells.size > C.size) := by omega
        obtain ⟨R, hR, hRR⟩ := fill_sound ps qs (cells.take o ++ vs ++ cells.drop (o + s)) (v.cells.zipIdx.foldl (fun cs (x : Value × Nat) => cs.setIfInBounds (o + x.2) x.1) C) r
          (fun j i a h => by simpa using hps (j + 1) i a (by simpa using h)) (by simpa using hl)
          (by rw [hseg, show v.cells.size = s by omega]; exact VRels.append (VRels.append (hc.take o) hv) (hc.drop _)) hr
        refine ⟨R, ?_, hRR⟩
        unfold Instr.fill
        rw [hpl]
        simp only [Bool.or_eq_true, decide_eq_true_eq]
        rw [if_neg hcond]
        exact hR
      · cases hr
    · cases hr
end Go.Am
