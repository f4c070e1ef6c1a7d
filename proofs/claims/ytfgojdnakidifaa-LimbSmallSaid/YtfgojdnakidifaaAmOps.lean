/-
  'Am', part 3: the operations on abstract values, and that the model's operations do what they say.
-/
import Derived.Test.YtfgojdnakidifaaAmHeap
set_option linter.unusedSimpArgs false
set_option linter.unusedVariables false
namespace Go.Am

/-- What is asked of a type. -/
inductive TD where
  | bool | str
  | int (k : IntKind)
  | slice (e : TypeId) (es : Nat) (ea : Bool) (eb : Nat)
  | array (n : Nat) (e : TypeId) (es : Nat) (ea : Bool)
  | struct (fs : List (Nat × Nat × Bool))
  | other

def isAggD : TypeDesc → Bool
  | .struct _ | .array _ _ => true
  | _ => false
/-- A type's size in cells, its bytes, whether it is a struct or an array. -/
def elI (P : Program) (t : TypeId) : Option (Nat × Nat × Bool) :=
  match P.info? t, P.underlying t with
  | some i, some d => some (i.size, i.bytes, isAggD d)
  | _, _ => none
def fieldsI (P : Program) : List Field → Option (List (Nat × Nat × Bool))
  | [] => some []
  | f :: fs => match elI P f.type, fieldsI P fs with
    | some (s, _, a), some r => some ((f.offset, s, a) :: r)
    | _, _ => none

def TD.of (P : Program) : TypeDesc → TD
  | .bool => .bool
  | .string => .str
  | .int k => .int k
  | .slice e => match elI P e with
    | some (s, b, a) => .slice e s a b
    | none => .other
  | .array n e => match elI P e with
    | some (s, _, a) => .array n e s a
    | none => .other
  | .struct fs => match fieldsI P fs.toList with
    | some r => .struct r
    | none => .other
  | _ => .other

def cellAV : Value → AV
  | .int k n => .int k n
  | .bool b => .bool b
  | .string s => .str s
  | .slice none 0 0 => .nils
  | v => .exact v

structure TyI where
  size : Nat
  bytes : Nat
  agg : Bool
  zero : List AV
  td : TD

def tyI (P : Program) (t : TypeId) : Option TyI :=
  match P.info? t, P.underlying t with
  | some i, some d => match i.zero with
    | some z => some ⟨i.size, i.bytes, isAggD d, z.cells.toList.map cellAV, TD.of P d⟩
    | none => none
  | _, _ => none

def toAV : Value → AV
  | .agg cs => .agg (cs.toList.map cellAV)
  | v => cellAV v

def AS.ev (σ : AS) : Operand → AV
  | .tmp t => σ.tm t
  | .const v => toAV v
  | .func f => .fn (.func f) [] []
  | .global _ => .dead

theorem cellAV_rel (M : Mem) (r : Bool) (v : Value) : VRel M r (cellAV v) v := by
  unfold cellAV; split <;> simp [VRel]
theorem map_cellAV_rel (M : Mem) (r : Bool) : ∀ l : List Value, VRels M r (l.map cellAV) l
  | [] => rfl
  | v :: l => ⟨v, l, rfl, cellAV_rel M r v, map_cellAV_rel M r l⟩
theorem toAV_rel (M : Mem) (r : Bool) (v : Value) : VRel M r (toAV v) v := by
  cases v <;> simp only [toAV] <;> first | exact cellAV_rel M r _ | exact ⟨_, rfl, map_cellAV_rel M r _⟩

theorem ev_rel {N : Nat} {X : Ctx} {σ : AS} {M : Mem} {a : Act} (R : Rel N X σ M a) (x : Operand) : VRel M true (σ.ev x) (a.eval x) := by
  cases x with
  | tmp t => exact R.tm t
  | const v => exact toAV_rel M true v
  | func f => exact ⟨[], [], rfl, rfl, rfl⟩
  | global g => exact trivial

theorem tyI_spec {P : Program} {t : TypeId} {i : TyI} (h : tyI P t = some i) :
    ∃ inf d z, P.info? t = some inf ∧ P.underlying t = some d ∧ inf.zero = some z ∧ i.size = inf.size ∧ i.bytes = inf.bytes ∧ i.agg = isAggD d ∧ i.zero = z.cells.toList.map cellAV ∧ i.td = TD.of P d := by
  unfold tyI at h
  split at h
  · rename_i inf d h1 h2
    split at h
    · rename_i z hz
      cases h
      exact ⟨inf, d, z, h1, h2, hz, rfl, rfl, rfl, rfl, rfl⟩
    · cases h
  · cases h

section runs
variable {P : Program} {t : TypeId} {i : TyI} (w : World)

theorem run_isAgg (h : tyI P t = some i) : (isAgg t).run P w = .ok i.agg w := by
  obtain ⟨inf, d, z, h1, h2, h3, h4, h5, h6, h7, h8⟩ := tyI_spec h
  rw [h6]
  cases d <;> simp [isAgg, underlying, h2, isAggD]
theorem run_sizeOf (h : tyI P t = some i) : (sizeOf t).run P w = .ok i.size w := by
  obtain ⟨inf, d, z, h1, h2, h3, h4, h5, h6, h7, h8⟩ := tyI_spec h
  simp [sizeOf, typeInfo, h1, h4]
theorem run_zeroValue (h : tyI P t = some i) : ∃ z, (zeroValue t).run P w = .ok z w ∧ i.zero = z.cells.toList.map cellAV := by
  obtain ⟨inf, d, z, h1, h2, h3, h4, h5, h6, h7, h8⟩ := tyI_spec h
  exact ⟨z, by simp [zeroValue, typeInfo, h1, h3], h7⟩
theorem run_underlyingI (h : tyI P t = some i) : ∃ d, (underlying t).run P w = .ok d w ∧ P.underlying t = some d ∧ i.td = TD.of P d := by
  obtain ⟨inf, d, z, h1, h2, h3, h4, h5, h6, h7, h8⟩ := tyI_spec h
  exact ⟨d, by simp [underlying, h2], h2, h8⟩
end runs

/-- One cell's value. -/
def leafOk : AV → Bool
  | .agg _ | .tup _ | .dead => false
  | .exact v => v.oneCell'
  | _ => true
theorem leaf_oneCell {M : Mem} {r : Bool} {a : AV} {v : Value} (h : VRel M r a v) (hl : leafOk a = true) : v.oneCell' = true := by
  cases a <;> simp only [leafOk, Bool.false_eq_true] at hl <;> simp only [VRel] at h
  case exact => subst h; exact hl
  case fn => obtain ⟨_, _, rfl, _⟩ := h; rfl
  case ptr => exact h.2.1
  case sl => exact h.2.1
  case ro => obtain ⟨_, _, rfl, _⟩ := h; rfl
  case rp => obtain ⟨_, _, _, _, _, rfl, _⟩ := h; rfl
  all_goals subst h; rfl
theorem leaf_cells {M : Mem} {r : Bool} {a : AV} {v : Value} (h : VRel M r a v) (hl : leafOk a = true) : v.cells = #[v] := by
  have := leaf_oneCell h hl
  cases v <;> first | rfl | simp [Value.oneCell'] at this
theorem leaves_oneCell {M : Mem} {r : Bool} : ∀ {cs : List AV} {l : List Value}, VRels M r cs l → cs.all leafOk = true → ∀ v ∈ l, v.oneCell' = true
  | [], _, h, _, v, hv => by cases h; cases hv
  | c :: cs, _, ⟨u, us, e, H, K⟩, hl, v, hv => by
    subst e
    simp only [List.all_cons, Bool.and_eq_true] at hl
    cases hv with
    | head => exact leaf_oneCell H hl.1
    | tail _ hv => exact leaves_oneCell K hl.2 v hv

/-! ### Loads -/
def loadA (i : TyI) (h : HP) : AV → Option AV
  | .ptr id off => match h.bk id with
    | some k => if i.agg then (if off + i.size ≤ k.cs.length then some (.agg ((k.cs.drop off).take i.size)) else none) else k.cs[off]?
    | none => none
  | .rp cs => if i.agg then (if i.size ≤ cs.length then some (.agg (cs.take i.size)) else none) else cs[0]?
  | _ => none

theorem run_loadCells_at (P : Program) (w : World) (b off n : Nat) (C : Array Value) (e : TypeId) (fz : Nat × Nat) (hb : w.heap[b]? = some (.cells C e fz)) (hn : off + n ≤ C.size) :
    (loadCells ⟨b, off, none⟩ n).run P w = .ok ((C.toList.drop off).take n).toArray w := by
  have hl : ((C.toList.drop off).take n).length = n := by simp; omega
  have := run_loadCells_list (P := P) w ⟨b, off, none⟩ ((C.toList.drop off).take n) (fun j v hj => by
    rw [addr_add]
    rw [List.getElem?_take] at hj
    split at hj
    · rw [List.getElem?_drop] at hj
      simp [World.cell?, hb, ← hj]
    · cases hj)
  rwa [hl] at this

theorem loadVar_at {P : Program} {t : TypeId} {i : TyI} {M : Mem} {b off : Nat} {C : Array Value} {e : TypeId} {fz : Nat × Nat} {cs : List AV} (hi : tyI P t = some i)
    (hb : M.w.heap[b]? = some (.cells C e fz)) (hp : VPreR M cs (C.toList.drop off)) :
    (i.agg = true → i.size ≤ cs.length → ∃ v, (loadVar t ⟨b, off, none⟩).run P M.w = .ok v M.w ∧ VRel M true (.agg (cs.take i.size)) v) ∧
    (i.agg = false → ∀ c, cs[0]? = some c → ∃ v, (loadVar t ⟨b, off, none⟩).run P M.w = .ok v M.w ∧ VRel M true c v) := by
  have hlen := hp.length
  constructor
  · intro ha hs
    simp only [List.length_drop, Array.length_toList] at hlen
    by_cases h0 : i.size = 0
    · refine ⟨.agg #[], ?_, ⟨[], rfl, by simp [h0, VRels]⟩⟩
      simp only [loadVar, Sem.run_bind, run_isAgg _ hi, ha, run_sizeOf _ hi, Result.andThen_ok, if_true, h0]
      simp [loadCells, loadCellsFrom]
    · have hr := run_loadCells_at P M.w b off i.size C e fz hb (by omega)
      refine ⟨.agg ⟨(C.toList.drop off).take i.size⟩, ?_, ⟨_, rfl, ?_⟩⟩
      · simp only [loadVar, Sem.run_bind, run_isAgg _ hi, ha, run_sizeOf _ hi, Result.andThen_ok, if_true, hr]
        simp
      · have := (hp.take i.size).toRels
        rwa [List.length_take, Nat.min_eq_left hs] at this
  · intro ha c hc
    obtain ⟨v, hv, hr⟩ := hp.get 0 c hc
    refine ⟨v, ?_, hr⟩
    rw [List.getElem?_drop] at hv
    simp only [loadVar, Sem.run_bind, run_isAgg _ hi, ha, Result.andThen_ok, Bool.false_eq_true, if_false, run_load]
    have : M.w.cell? ⟨b, off, none⟩ = some v := by simp [World.cell?, hb]; simpa using hv
    simp [this]

theorem loadA_sound {P : Program} {t : TypeId} {i : TyI} {X : Ctx} {h : HP} {M : Mem} (H : HRel X h M) (hi : tyI P t = some i) {p c : AV} {pv : Value} (hp : VRel M true p pv)
    (hl : loadA i h p = some c) : ∃ v, (Instr.loadAt t pv).run P M.w = .ok v M.w ∧ VRel M true c v := by
  unfold loadA at hl
  split at hl
  · rename_i id off
    split at hl
    · rename_i k hk
      have hD : M.D id := (H.dom id).2 (by simp [hk])
      obtain ⟨_, _, _, hv⟩ := hp
      obtain rfl := hv hD
      obtain ⟨C, e, hb, hpre, _⟩ := H.bk id k hk
      have L := loadVar_at (off := off) hi hb (hpre.drop off)
      simp only [Instr.loadAt, Instr.sureAddr, pure_bind]
      split at hl
      · rename_i ha
        split at hl
        · rename_i hle
          cases hl
          exact L.1 ha (by simp; omega)
        · cases hl
      · rename_i ha
        exact L.2 (by simpa using ha) c (by rw [List.getElem?_drop]; simpa using hl)
    · cases hl
  · rename_i cs
    obtain ⟨b, off, C, e, fz, rfl, hb, hfree, hpre⟩ := hp
    have L := loadVar_at (off := off) hi hb (VPre.flag _ _ hpre)
    simp only [Instr.loadAt, Instr.sureAddr, pure_bind]
    split at hl
    · rename_i ha
      split at hl
      · rename_i hle
        cases hl
        exact L.1 ha hle
      · cases hl
    · rename_i ha
      exact L.2 (by simpa using ha) c hl
  · cases hl

/-! ### Stores -/
def storeA (i : TyI) (h : HP) (p v : AV) : Option HP :=
  match p with
  | .ptr id off => match h.bk id with
    | some k => match v with
      | .agg vs => if i.size = vs.length ∧ off + vs.length ≤ k.cs.length ∧ vs.all leafOk = true then some { h with bk := upd h.bk id (some ⟨k.cs.take off ++ vs ++ k.cs.drop (off + vs.length), k.fix⟩) } else none
      | v => if leafOk v = true ∧ i.size = 1 ∧ off < k.cs.length then some { h with bk := upd h.bk id (some ⟨k.cs.set off v, k.fix⟩) } else none
    | none => none
  | _ => none

theorem seg_rel {M : Mem} {cs vs : List AV} {l us : List Value} (off : Nat) (hp : VPreR M cs l) (hv : VRels M true vs us) (hle : off + vs.length ≤ cs.length) :
    VPreR M (cs.take off ++ vs ++ cs.drop (off + vs.length)) (l.take off ++ us ++ l.drop (off + us.length)) := by
  have hl := hp.length
  have h1 : VRels M true (cs.take off) (l.take off) := by
    have := (hp.take off).toRels
    rwa [List.length_take, Nat.min_eq_left (by omega)] at this
  rw [hv.length]
  exact VPreR.append (VRels.append h1 hv) (hp.drop _)

theorem store_run {P : Program} {X : Ctx} {h : HP} {M : Mem} (H : HRel X h M) {t : TypeId} {i : TyI} (hi : tyI P t = some i) {id off : Nat} {k : Blk} (hk : h.bk id = some k)
    {vs : List AV} {us : List Value} {u : Value} (hu : u.cells.toList = us) (hv : VRels M true vs us) (h1 : ∀ x ∈ us, x.oneCell' = true) (hs : i.size = vs.length) (hle : off + vs.length ≤ k.cs.length) :
    ∃ M', (Instr.storeAt t (.pointer (some ⟨M.φ id, off, none⟩)) u).run P M.w = .ok () M'.w ∧ M.le M' ∧ M'.O = M.O ∧
      HRel X { h with bk := upd h.bk id (some ⟨k.cs.take off ++ vs ++ k.cs.drop (off + vs.length), k.fix⟩) } M' := by
  obtain ⟨C, e, hb, hpre, hf⟩ := H.bk id k hk
  have hlen := hpre.length
  have hvl := hv.length
  simp only [Array.length_toList] at hlen
  have hsz : (C.toList.take off ++ us ++ C.toList.drop (off + us.length)).toArray.size = C.size := by simp; omega
  have hst := run_storeCells_at P (M.φ id) off e us 0 C M.w hb (by omega) h1
  have R := H.setRow hk hb (C' := (C.toList.take off ++ us ++ C.toList.drop (off + us.length)).toArray) hsz
    (k' := ⟨k.cs.take off ++ vs ++ k.cs.drop (off + vs.length), k.fix⟩) (seg_rel off hpre hv hle) (fun hx => by
      have := hf hx
      rw [hsz]; simp only [List.length_append, List.length_take, List.length_drop]; omega)
  refine ⟨_, ?_, R.1, rfl, R.2⟩
  have hcs : u.cells.size = i.size := by rw [← Array.length_toList, hu, hvl, hs]
  simp only [Instr.storeAt, Instr.sureAddr, pure_bind, storeVar, Sem.run_bind, run_sizeOf _ hi, Result.andThen_ok, hcs, ne_eq, not_true_eq_false, if_false, hu, hst]
  simp

theorem storeA_sound {P : Program} {X : Ctx} {h h' : HP} {M : Mem} (H : HRel X h M) {t : TypeId} {i : TyI} (hi : tyI P t = some i) {p v : AV} {pv u : Value} (hp : VRel M true p pv) (hv : VRel M true v u)
    (hs : storeA i h p v = some h') : ∃ M', (Instr.storeAt t pv u).run P M.w = .ok () M'.w ∧ M.le M' ∧ M'.O = M.O ∧ HRel X h' M' := by
  unfold storeA at hs
  split at hs
  · rename_i id off
    split at hs
    · rename_i k hk
      have hD : M.D id := (H.dom id).2 (by simp [hk])
      obtain ⟨_, _, _, hpv⟩ := hp
      obtain rfl := hpv hD
      split at hs
      · rename_i vs
        split at hs
        · rename_i hc
          cases hs
          obtain ⟨a, rfl, hva⟩ := hv
          exact store_run H hi hk (us := a) (u := .agg ⟨a⟩) rfl hva (leaves_oneCell hva hc.2.2) hc.1 hc.2.1
        · cases hs
      · split at hs
        · rename_i hc
          cases hs
          have hcell := leaf_cells hv hc.1
          have := store_run H hi hk (off := off) (vs := [v]) (us := [u]) (u := u) (by rw [hcell]) ⟨u, [], rfl, hv, rfl⟩
            (fun x hx => by simp at hx; subst hx; exact leaf_oneCell hv hc.1) hc.2.1 (by simp; omega)
          rwa [show k.cs.take off ++ [v] ++ k.cs.drop (off + [v].length) = k.cs.set off v by
            rw [List.set_eq_take_append_cons_drop, if_pos hc.2.2]; simp] at this
        · cases hs
    · cases hs
  · cases hs
end Go.Am
