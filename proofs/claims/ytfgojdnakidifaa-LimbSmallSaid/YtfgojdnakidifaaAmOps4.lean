/-
  'Am', part 6: fields, elements, slice expressions, make, conversions.
-/
import Derived.Test.YtfgojdnakidifaaAmOps3
set_option linter.unusedSimpArgs false
set_option linter.unusedVariables false
namespace Go.Am
variable {P : Program} {X : Ctx} {h : HP} {M : Mem}

/-- A part of an aggregate. -/
def partA (o s : Nat) (a : Bool) (cs : List AV) : Option AV :=
  if a then (if o + s ≤ cs.length then some (.agg ((cs.drop o).take s)) else none) else cs[o]?

theorem part_sound {e : TypeId} {s b : Nat} {a : Bool} (he : elI P e = some (s, b, a)) {cs : List AV} {l : List Value} (hr : VRels M true cs l) {o : Nat} {c : AV} (hc : partA o s a cs = some c) :
    ∃ v, (part e ⟨l⟩ o).run P M.w = .ok v M.w ∧ VRel M true c v := by
  unfold partA at hc
  have hl := hr.length
  split at hc
  · rename_i ha
    split at hc
    · rename_i hle
      cases hc
      refine ⟨.agg ⟨(l.drop o).take s⟩, ?_, ⟨_, rfl, (hr.drop o).take s⟩⟩
      have : (⟨l⟩ : Array Value).extract o (o + s) = ⟨(l.drop o).take s⟩ := by
        apply Array.ext'
        simp [List.drop_take]
      simp [part, run_isAgg_el he, ha, run_sizeOf_el he, this]
    · cases hc
  · rename_i ha
    obtain ⟨v, hv, hrel⟩ := hr.get o c hc
    refine ⟨v, ?_, hrel⟩
    have hv' : (⟨l⟩ : Array Value)[o]? = some v := by simpa using hv
    simp only [part, Sem.run_bind, run_isAgg_el he, Result.andThen_ok, ha, Bool.false_eq_true, if_false]
    rw [hv']
    rfl

def fieldAddrA (i : TyI) (h : HP) (f : Nat) (p : AV) : Option AV :=
  match i.td with
  | .struct fs => match fs[f]?, p with
    | some (o, s, _), .ptr id off => if s ≠ 0 ∧ (h.bk id).isSome = true then some (.ptr id (off + o)) else none
    | some (o, s, _), .rp cs => if s ≠ 0 then some (.rp (cs.drop o)) else none
    | _, _ => none
  | _ => none

theorem fieldAddr_sound (H : HRel X h M) {t : TypeId} {i : TyI} (hi : tyI P t = some i) {f : Nat} {p c : AV} {pv : Value} (hp : VRel M true p pv) (hc : fieldAddrA i h f p = some c) :
    ∃ v, (Instr.fieldAt t pv f).run P M.w = .ok v M.w ∧ VRel M true c v := by
  obtain ⟨d, hd, hd2, hd3⟩ := run_underlyingI M.w hi
  unfold fieldAddrA at hc
  split at hc
  · rename_i fs htd
    obtain ⟨F, rfl, hF⟩ := TD_struct (hd3.symm.trans htd)
    split at hc
    · rename_i o s a id off hf
      obtain ⟨fd, b, h1, h2, h3⟩ := fieldsI_spec hF f o s a hf
      have h1' : F[f]? = some fd := by simpa using h1
      split at hc
      · rename_i hs
        cases hc
        obtain ⟨h4, h5, h6, h7⟩ := hp
        have hD : M.D id := (H.dom id).2 hs.2
        obtain rfl := h7 hD
        refine ⟨.pointer (some ⟨M.φ id, off + o, none⟩), ?_, ⟨rfl, rfl, h6, fun _ => rfl⟩⟩
        simp only [Instr.fieldAt, Sem.run_bind, hd, Result.andThen_ok, h1', Instr.sureAddr, Sem.run_pure, fieldPlace, run_sizeOf_el h3, if_neg hs.1, h2, addr_add]
      · cases hc
    · rename_i o s a cs hf
      obtain ⟨fd, b, h1, h2, h3⟩ := fieldsI_spec hF f o s a hf
      have h1' : F[f]? = some fd := by simpa using h1
      split at hc
      · rename_i hs
        cases hc
        obtain ⟨b', off, C, e, fz, rfl, hb, hfree, hpre⟩ := hp
        refine ⟨.pointer (some ⟨b', off + o, none⟩), ?_, ⟨b', off + o, C, e, fz, rfl, hb, hfree, by have := hpre.drop o; rwa [List.drop_drop] at this⟩⟩
        simp only [Instr.fieldAt, Sem.run_bind, hd, Result.andThen_ok, h1', Instr.sureAddr, Sem.run_pure, fieldPlace, run_sizeOf_el h3, if_neg hs, h2, addr_add]
      · cases hc
    · cases hc
  · cases hc

def fieldA (i : TyI) (f : Nat) (x : AV) : Option AV :=
  match i.td, x with
  | .struct fs, .agg cs => match fs[f]? with
    | some (o, s, a) => partA o s a cs
    | none => none
  | _, _ => none

theorem field_sound {t : TypeId} {i : TyI} (hi : tyI P t = some i) {f : Nat} {x c : AV} {xv : Value} (hx : VRel M true x xv) (hc : fieldA i f x = some c) :
    ∃ v, (Instr.field t xv f).run P M.w = .ok v M.w ∧ VRel M true c v := by
  obtain ⟨d, hd, hd2, hd3⟩ := run_underlyingI M.w hi
  unfold fieldA at hc
  split at hc
  · rename_i fs cs htd
    obtain ⟨F, rfl, hF⟩ := TD_struct (hd3.symm.trans htd)
    split at hc
    · rename_i o s a hf
      obtain ⟨fd, b, h1, h2, h3⟩ := fieldsI_spec hF f o s a hf
      have h1' : F[f]? = some fd := by simpa using h1
      obtain ⟨l, rfl, hl⟩ := hx
      obtain ⟨v, hv, hr⟩ := part_sound h3 hl hc
      refine ⟨v, ?_, hr⟩
      simp only [Instr.field, Sem.run_bind, hd, Result.andThen_ok, h1', asAgg, Sem.run_pure, h2, hv]
    · cases hc
  · cases hc

/-- An index. -/
def idx (a : AV) (n : Nat) : Option Nat :=
  match a with
  | .int _ i => if 0 ≤ i ∧ i < n then some i.toNat else none
  | _ => none
theorem idx_spec {M : Mem} {r : Bool} {a : AV} {n j : Nat} {v : Value} (hv : VRel M r a v) (h : idx a n = some j) : ∃ k i, v = .int k i ∧ 0 ≤ i ∧ i < n ∧ i.toNat = j := by
  unfold idx at h
  split at h
  · rename_i k i
    split at h
    · rename_i hc
      cases h
      exact ⟨k, i, hv, hc.1, hc.2, rfl⟩
    · cases h
  · cases h

def indexAddrA (i : TyI) (h : HP) (x ix : AV) : Option AV :=
  match i.td, x with
  | .array n _ es _, .ptr id off => if (h.bk id).isSome = true then (idx ix n).map fun j => .ptr id (off + j * es) else none
  | .array n _ es _, .rp cs => (idx ix n).map fun j => .rp (cs.drop (j * es))
  | .slice _ _ _ _, .sl id off es n => match i.td with
    | .slice _ es' _ _ => if es = es' ∧ (h.bk id).isSome = true then (idx ix n).map fun j => .ptr id (off + j * es) else none
    | _ => none
  | .slice _ es _ _, .ro n cs => if cs = [] then none else (idx ix n).map fun j => .rp (cs.drop (j * es))
  | _, _ => none

theorem indexAddr_sound (H : HRel X h M) {t : TypeId} {i : TyI} (hi : tyI P t = some i) {x ix c : AV} {xv iv : Value} (hx : VRel M true x xv) (hix : VRel M true ix iv)
    (hc : indexAddrA i h x ix = some c) : ∃ v, (Instr.indexAt t xv iv).run P M.w = .ok v M.w ∧ VRel M true c v := by
  obtain ⟨d, hd, hd2, hd3⟩ := run_underlyingI M.w hi
  unfold indexAddrA at hc
  split at hc
  · rename_i n e es ea id off htd
    obtain ⟨rfl, eb, he⟩ := TD_array (hd3.symm.trans htd)
    split at hc
    · rename_i hs
      cases hj : idx ix n with
      | none => simp [hj] at hc
      | some j =>
        simp only [hj, Option.map_some, Option.some.injEq] at hc
        subst hc
        obtain ⟨k, q, rfl, h0, hn, hq⟩ := idx_spec hix hj
        obtain ⟨h4, h5, h6, h7⟩ := hx
        obtain rfl := h7 ((H.dom id).2 hs)
        refine ⟨.pointer (some ⟨M.φ id, off + j * es, none⟩), ?_, ⟨rfl, rfl, h6, fun _ => rfl⟩⟩
        simp [Instr.indexAt, asIntOf, hd, Instr.sureAddr, h0, hn, run_sizeOf_el he, hq, addr_add]
    · cases hc
  · rename_i n e es ea cs htd
    obtain ⟨rfl, eb, he⟩ := TD_array (hd3.symm.trans htd)
    cases hj : idx ix n with
    | none => simp [hj] at hc
    | some j =>
      simp only [hj, Option.map_some, Option.some.injEq] at hc
      subst hc
      obtain ⟨k, q, rfl, h0, hn, hq⟩ := idx_spec hix hj
      obtain ⟨b', off, C, e', fz, rfl, hb, hfree, hpre⟩ := hx
      refine ⟨.pointer (some ⟨b', off + j * es, none⟩), ?_, ⟨b', off + j * es, C, e', fz, rfl, hb, hfree, by have := hpre.drop (j * es); rwa [List.drop_drop] at this⟩⟩
      simp [Instr.indexAt, asIntOf, hd, Instr.sureAddr, h0, hn, run_sizeOf_el he, hq, addr_add]
  · rename_i e0 es0 ea0 eb0 id off es n htd
    obtain ⟨rfl, he⟩ := TD_slice (hd3.symm.trans htd)
    rw [htd] at hc
    simp only at hc
    split at hc
    · rename_i hs
      obtain ⟨rfl, hs⟩ := hs
      cases hj : idx ix n with
      | none => simp [hj] at hc
      | some j =>
        simp only [hj, Option.map_some, Option.some.injEq] at hc
        subst hc
        obtain ⟨k, q, rfl, h0, hn, hq⟩ := idx_spec hix hj
        obtain ⟨h4, h5, h6, h7⟩ := hx
        obtain ⟨cap, el, sz, rfl, _⟩ := h7 ((H.dom id).2 hs)
        refine ⟨.pointer (some ⟨M.φ id, off + j * es, none⟩), ?_, ⟨rfl, rfl, h6, fun _ => rfl⟩⟩
        simp [Instr.indexAt, asIntOf, hd, h0, hn, run_sizeOf_el he, hq, addr_add]
    · cases hc
  · rename_i e es ea eb n cs htd
    obtain ⟨rfl, he⟩ := TD_slice (hd3.symm.trans htd)
    split at hc
    · cases hc
    · rename_i hne
      cases hj : idx ix n with
      | none => simp [hj] at hc
      | some j =>
        simp only [hj, Option.map_some, Option.some.injEq] at hc
        subst hc
        obtain ⟨k, q, rfl, h0, hn, hq⟩ := idx_spec hix hj
        obtain ⟨base, cap, rfl, hcap, hcs⟩ := hx
        obtain ⟨b', off, C, e', fz, rfl, hb, hfree, hpre⟩ := hcs.resolve_left hne
        refine ⟨.pointer (some ⟨b', off + j * es, none⟩), ?_, ⟨b', off + j * es, C, e', fz, rfl, hb, hfree, by have := hpre.drop (j * es); rwa [List.drop_drop] at this⟩⟩
        simp [Instr.indexAt, asIntOf, hd, h0, hn, run_sizeOf_el he, hq, addr_add]
  · cases hc

def indexA (i : TyI) (x ix : AV) : Option AV :=
  match i.td, x with
  | .array n _ es ea, .agg cs => match idx ix n with
    | some j => partA (j * es) es ea cs
    | none => none
  | .str, .str s => match ix with
    | .int _ q => if 0 ≤ q then (s[q.toNat]?).map fun b => .int .u8 b.toNat else none
    | _ => none
  | _, _ => none

theorem index_sound {t : TypeId} {i : TyI} (hi : tyI P t = some i) {x ix c : AV} {xv iv : Value} (hx : VRel M true x xv) (hix : VRel M true ix iv)
    (hc : indexA i x ix = some c) : ∃ v, (Instr.index t xv iv).run P M.w = .ok v M.w ∧ VRel M true c v := by
  obtain ⟨d, hd, hd2, hd3⟩ := run_underlyingI M.w hi
  unfold indexA at hc
  split at hc
  · rename_i n e es ea cs htd
    obtain ⟨rfl, eb, he⟩ := TD_array (hd3.symm.trans htd)
    split at hc
    · rename_i j hj
      obtain ⟨k, q, rfl, h0, hn, hq⟩ := idx_spec hix hj
      obtain ⟨l, rfl, hl⟩ := hx
      obtain ⟨v, hv, hr⟩ := part_sound he hl hc
      exact ⟨v, by simp [Instr.index, asIntOf, hd, h0, hn, run_sizeOf_el he, hq, hv], hr⟩
    · cases hc
  · rename_i s htd
    obtain rfl := TD_str (hd3.symm.trans htd)
    split at hc
    · rename_i k q
      split at hc
      · rename_i h0
        cases hb : s[q.toNat]? with
        | none => simp [hb] at hc
        | some b =>
          simp only [hb, Option.map_some, Option.some.injEq] at hc
          subst hc
          simp only [VRel] at hix hx
          subst hix hx
          exact ⟨_, by simp [Instr.index, asIntOf, hd, h0, hb], rfl⟩
      · cases hc
    · cases hc
  · cases hc

def extractA (x : AV) (j : Nat) : Option AV :=
  match x with
  | .tup vs => vs[j]?
  | _ => none
theorem extract_sound {x c : AV} {xv : Value} {j : Nat} (hx : VRel M true x xv) (hc : extractA x j = some c) : ∃ v, (Instr.extract xv j).run P M.w = .ok v M.w ∧ VRel M true c v := by
  unfold extractA at hc
  split at hc
  · obtain ⟨l, rfl, hl⟩ := hx
    obtain ⟨v, hv, hr⟩ := hl.get j c hc
    have hv' : (⟨l⟩ : Array Value)[j]? = some v := by simpa using hv
    refine ⟨v, ?_, hr⟩
    simp only [Instr.extract, hv']
    rfl
  · cases hc
end Go.Am
