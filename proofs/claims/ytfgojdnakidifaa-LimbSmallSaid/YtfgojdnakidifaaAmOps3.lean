/-
  'Am', part 5: literals, fields, elements, slices.
-/
import Derived.Test.YtfgojdnakidifaaAmOps2
set_option linter.unusedSimpArgs false
set_option linter.unusedVariables false
namespace Go.Am
variable {P : Program} {X : Ctx} {h : HP} {M : Mem}

theorem shape_push (w : World) (C : Array Value) (e : TypeId) (f : Nat × Nat) : World.shape? { w with heap := w.heap.push (.cells C e f) } w.heap.size = some (e, C.size) := by
  unfold World.shape?
  rw [show ({ w with heap := w.heap.push (.cells C e f) } : World).heap[w.heap.size]? = some (.cells C e f) from by simp only [Array.getElem?_push_size]]
theorem slice_new (M : Mem) (C : Array Value) (e : TypeId) (es n cap : Nat) (hn : n ≤ cap) (hc : cap * es ≤ C.size) :
    VRel (M.add (.cells C e (0, 0))) true (.sl M.n 0 es n) (.slice (some ⟨M.w.heap.size, 0, none⟩) n cap) :=
  ⟨rfl, rfl, Nat.lt_succ_self _, fun _ => ⟨cap, e, C.size, by show _ = Value.slice (some ⟨upd M.φ M.n M.w.heap.size M.n, 0, none⟩) n cap; rw [upd_same], hn,
    by show World.shape? _ (upd M.φ M.n M.w.heap.size M.n) = _; rw [upd_same]; exact shape_push _ _ _ _, by omega⟩⟩

/-- Where part j of a literal lies. -/
def placeA : TD → Nat → Option (Nat × Nat)
  | .struct fs, j => (fs[j]?).map fun f => (f.1, f.2.1)
  | .array _ _ es _, j => some (j * es, es)
  | _, _ => none
def evParts (ρ : Operand → AV) (ps : Array (Nat × Operand)) : List (Nat × AV) := ps.toList.map fun p => (p.1, ρ p.2)
def buildA (i : TyI) (ps : List (Nat × AV)) : Option AV :=
  match i.td with
  | .struct _ | .array .. => (fillA (placeA i.td) i.zero ps).map .agg
  | _ => none

theorem parts_rel {ρa : Operand → AV} {ρc : Operand → Value} {ps : Array (Nat × Operand)} (hρ : ∀ x ∈ ps.toList.map (·.2), VRel M true (ρa x) (ρc x)) :
    (∀ (j i : Nat) (a : AV), (evParts ρa ps)[j]? = some (i, a) → ∃ v, ((ps.map fun (i, x) => (i, ρc x)).toList)[j]? = some (i, v) ∧ VRel M true a v) ∧
    ((ps.map fun (i, x) => (i, ρc x)).toList).length = (evParts ρa ps).length := by
  obtain ⟨ps⟩ := ps
  refine ⟨fun j i a h => ?_, by simp [evParts]⟩
  simp only [evParts, List.getElem?_map] at h
  cases hj : ps[j]? with
  | none => simp [hj] at h
  | some p =>
    simp only [hj, Option.map_some, Option.some.injEq, Prod.mk.injEq] at h
    obtain ⟨rfl, rfl⟩ := h
    exact ⟨ρc p.2, by simp [hj], hρ _ (List.mem_map.2 ⟨p, List.mem_of_getElem? hj, rfl⟩)⟩

theorem mapM_places (P : Program) (w : World) : ∀ {fs : List Field} {r : List (Nat × Nat × Bool)}, fieldsI P fs = some r →
    (fs.mapM (m := Sem) fun f => do pure (f.offset, ← sizeOf f.type)).run P w = .ok (r.map fun f => (f.1, f.2.1)) w
  | [], r, h => by simp [fieldsI] at h; subst h; rfl
  | f :: fs, r, h => by
    unfold fieldsI at h
    split at h
    · rename_i s b a r' h1 h2
      cases h
      rw [List.mapM_cons]
      simp only [Sem.run_bind, run_sizeOf_el h1, Result.andThen_ok, Sem.run_pure, mapM_places P w h2]
      rfl
    · cases h

theorem build_sound {t : TypeId} {i : TyI} (hi : tyI P t = some i) {ρa : Operand → AV} {ρc : Operand → Value} {ps : Array (Nat × Operand)}
    (hρ : ∀ x ∈ ps.toList.map (·.2), VRel M true (ρa x) (ρc x)) {c : AV} (hb : buildA i (evParts ρa ps) = some c) :
    ∃ v, (Instr.build t (ps.map fun (i, x) => (i, ρc x))).run P M.w = .ok v M.w ∧ VRel M true c v := by
  obtain ⟨z, hz, hzz⟩ := run_zeroValue M.w hi
  obtain ⟨d, hd, hd2, hd3⟩ := run_underlyingI M.w hi
  obtain ⟨p1, p2⟩ := parts_rel hρ
  have hzr : VRels M true i.zero z.cells.toList := by rw [hzz]; exact map_cellAV_rel M true _
  unfold buildA at hb
  split at hb
  · rename_i fs htd
    obtain ⟨F, rfl, hF⟩ := TD_struct (hd3.symm.trans htd)
    cases hf : fillA (placeA i.td) i.zero (evParts ρa ps) with
    | none => simp [hf] at hb
    | some r =>
      simp only [hf, Option.map_some, Option.some.injEq] at hb
      subst hb
      obtain ⟨R, hR, hRR⟩ := fill_sound _ _ _ _ _ p1 p2 hzr hf
      refine ⟨.agg R, ?_, ⟨R.toList, rfl, hRR⟩⟩
      have hm := mapM_places P M.w hF
      have hpl : (fun j => ((fs.map fun f => (f.1, f.2.1)).toArray)[j]?) = placeA i.td := by
        funext j; rw [htd]; simp [placeA]
      have hm2 : (F.mapM (m := Sem) fun f => do pure (f.offset, ← sizeOf f.type)).run P M.w = .ok ((fs.map fun f => (f.1, f.2.1)).toArray) M.w := by
        rw [Array.mapM_eq_mapM_toList]
        simp only [Sem.run_map, hm]
        rfl
      simp only [Instr.build, Sem.run_bind, hz, Result.andThen_ok, hd, hm2]
      rw [hpl, hR]
      rfl
  · rename_i n e es ea htd
    obtain ⟨rfl, eb, he⟩ := TD_array (hd3.symm.trans htd)
    cases hf : fillA (placeA i.td) i.zero (evParts ρa ps) with
    | none => simp [hf] at hb
    | some r =>
      simp only [hf, Option.map_some, Option.some.injEq] at hb
      subst hb
      obtain ⟨R, hR, hRR⟩ := fill_sound _ _ _ _ _ p1 p2 hzr hf
      refine ⟨.agg R, ?_, ⟨R.toList, rfl, hRR⟩⟩
      have hpl : (fun j => some (j * es, es)) = placeA i.td := by funext j; rw [htd]; rfl
      simp only [Instr.build, Sem.run_bind, hz, Result.andThen_ok, hd, run_sizeOf_el he]
      rw [hpl, hR]
      rfl
  · cases hb

/-- The zero cells of n elements. -/
def zerosA (z : List AV) (n : Nat) : List AV := (List.replicate n z).flatten

def buildSliceA (P : Program) (i : TyI) (h : HP) (len : Nat) (ps : List (Nat × AV)) : Option (AV × HP) :=
  match i.td with
  | .slice e es _ _ => match tyI P e with
    | some ie => if ie.size = es ∧ ie.zero.length = es ∧ len * es ≤ 2 ^ 24 then
        (fillA (fun j => some (j * es, es)) (zerosA ie.zero len) ps).map fun cs => (.sl h.nt 0 es len, h.add ⟨cs, true⟩)
      else none
    | none => none
  | _ => none

theorem zeros_list (z : Array Value) (n s : Nat) (hs : z.size = s) (h0 : n * s ≠ 0) :
    ((Array.range (n * s)).map (fun j => z[j % z.size]!)).toList = (List.replicate n z.toList).flatten := by
  subst hs
  have hpos : 0 < z.size := by
    rcases Nat.eq_zero_or_pos z.size with h | h
    · simp [h] at h0
    · exact h
  apply List.ext_getElem?
  intro j
  by_cases hj : j < n * z.size
  · have hmod : j % z.size < z.size := Nat.mod_lt _ hpos
    have hl : ((List.replicate n z.toList).flatten)[j]? = z.toList[j % z.size]? := by
      clear h0
      induction n generalizing j with
      | zero => simp at hj
      | succ n ih =>
        rw [List.replicate_succ, List.flatten_cons]
        by_cases h1 : j < z.size
        · rw [List.getElem?_append_left (by simpa using h1), Nat.mod_eq_of_lt h1]
        · rw [List.getElem?_append_right (by simp; omega)]
          have : j - z.toList.length < n * z.size := by simp; rw [Nat.succ_mul] at hj; omega
          rw [ih _ this (Nat.mod_lt _ hpos)]
          congr 1
          simp only [Array.length_toList]
          exact (Nat.mod_eq_sub_mod (by omega)).symm
    rw [hl]
    simp [hj, hmod]
  · rw [List.getElem?_eq_none (by simp; omega), List.getElem?_eq_none]
    simp; omega

theorem zerosA_length (z : List AV) (n : Nat) : (zerosA z n).length = n * z.length := by
  unfold zerosA
  induction n with
  | zero => simp
  | succ n ih => rw [List.replicate_succ, List.flatten_cons, List.length_append, ih, Nat.succ_mul, Nat.add_comm]
theorem zeros_rel {M : Mem} {r : Bool} {z : Array Value} {zs : List AV} (hz : VRels M r zs z.toList) : ∀ n, VRels M r (zerosA zs n) ((List.replicate n z.toList).flatten)
  | 0 => rfl
  | n + 1 => by
    unfold zerosA
    rw [List.replicate_succ, List.replicate_succ, List.flatten_cons, List.flatten_cons]
    exact VRels.append hz (zeros_rel hz n)

theorem fillA_length {pl : Nat → Option (Nat × Nat)} : ∀ (ps : List (Nat × AV)) (cs r : List AV), fillA pl cs ps = some r → r.length = cs.length
  | [], cs, r, h => by cases h; rfl
  | (i, a) :: ps, cs, r, h => by
    unfold fillA at h
    split at h
    · rename_i o s vs h1 h2
      split at h
      · rename_i hle
        have := fillA_length ps _ r h
        rw [this]
        simp only [List.length_append, List.length_take, List.length_drop]
        omega
      · cases h
    · cases h

theorem buildSlice_sound (H : HRel X h M) {t : TypeId} {i : TyI} (hi : tyI P t = some i) {len : Nat} {ρa : Operand → AV} {ρc : Operand → Value} {ps : Array (Nat × Operand)}
    (hρ : ∀ x ∈ ps.toList.map (·.2), VRel M true (ρa x) (ρc x)) {c : AV} {h' : HP} (hb : buildSliceA P i h len (evParts ρa ps) = some (c, h')) :
    ∃ M' v, (Instr.buildSlice t len (ps.map fun (i, x) => (i, ρc x))).run P M.w = .ok v M'.w ∧ M.le M' ∧ M'.O = M.O ∧ HRel X h' M' ∧ VRel M' true c v := by
  obtain ⟨d, hd, hd2, hd3⟩ := run_underlyingI M.w hi
  obtain ⟨p1, p2⟩ := parts_rel hρ
  unfold buildSliceA at hb
  split at hb
  · rename_i e es ea eb htd
    obtain ⟨rfl, he⟩ := TD_slice (hd3.symm.trans htd)
    split at hb
    · rename_i ie hie
      split at hb
      · rename_i hc
        obtain ⟨hs, hzl, h24⟩ := hc
        cases hf : fillA (fun j => some (j * es, es)) (zerosA ie.zero len) (evParts ρa ps) with
        | none => simp [hf] at hb
        | some r =>
          simp only [hf, Option.map_some, Option.some.injEq, Prod.mk.injEq] at hb
          obtain ⟨rfl, rfl⟩ := hb
          obtain ⟨z, hz, hzz⟩ := run_zeroValue M.w hie
          have hzr : VRels M true ie.zero z.cells.toList := by rw [hzz]; exact map_cellAV_rel M true _
          have hzs : z.cells.size = es := by have := hzr.length; simp at this; omega
          have hzz2 : ∃ Z : Array Value, (∀ K : Array Value → Sem Value, (if len * es = 0 then ((pure #[] : Sem (Array Value)) >>= K) else (zeroValue e >>= fun a => (pure a.cells : Sem (Array Value)) >>= K)).run P M.w = (K Z).run P M.w) ∧
              ((Array.range (len * es)).map (fun j => Z[j % Z.size]!)).toList = (List.replicate len z.cells.toList).flatten := by
            by_cases h0 : len * es = 0
            · refine ⟨#[], fun K => by simp [h0], ?_⟩
              rw [h0]
              rcases Nat.mul_eq_zero.1 h0 with h1 | h1
              · simp [h1]
              · have : z.cells.toList = [] := List.eq_nil_of_length_eq_zero (by rw [Array.length_toList]; omega)
                simp [this]
            · exact ⟨z.cells, fun K => by simp [h0, hz], zeros_list z.cells len es hzs h0⟩
          obtain ⟨Z, hZ, hZl⟩ := hzz2
          obtain ⟨R, hR, hRR⟩ := fill_sound _ _ _ ((Array.range (len * es)).map (fun j => Z[j % Z.size]!)) _ p1 p2 (by rw [hZl]; exact zeros_rel hzr len) hf
          have hrl := hRR.length
          have hrl2 := fillA_length _ _ _ hf
          have hzl3 : (zerosA ie.zero len).length = len * es := by
            rw [zerosA_length, hzl]
          refine ⟨M.add (.cells R e (0, 0)), .slice (some ⟨M.w.heap.size, 0, none⟩) len len, ?_, H.add_le _, rfl, H.add (k := ⟨r, true⟩) hRR.toPre (fun _ => by simpa using hrl), ?_⟩
          · have h24' : ¬ (len * es > 2 ^ 24) := by omega
            unfold Instr.buildSlice
            rw [Sem.run_bind, hd, Result.andThen_ok]
            dsimp only
            rw [Sem.run_bind, run_sizeOf_el he, Result.andThen_ok, if_neg h24']
            refine (hZ fun zero => match Instr.fill (fun i => some (i * es, es)) ((Array.range (len * es)).map (zero[· % zero.size]!)) (ps.map fun (i, x) => (i, ρc x)).toList with
                  | some cells => do pure (.slice (some (← newRow e cells)) len len)
                  | _ => stuck "buildSlice: a part of the wrong size").trans ?_
            rw [hR]
            rfl
          · rw [← H.n]
            refine slice_new M R e es len len (Nat.le_refl _) ?_
            simp only [Array.length_toList] at hrl
            omega
      · cases hb
    · cases hb
  · cases hb
end Go.Am
