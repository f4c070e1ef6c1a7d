/-
  'Am', part 11: operators.
-/
import Derived.Test.YtfgojdnakidifaaAmOps8
import Derived.Laws.StructEq
set_option linter.unusedSimpArgs false
set_option linter.unusedVariables false
namespace Go.Am
variable {P : Program} {X : Ctx} {h : HP} {M : Mem}

/-! ### '==' of aggregates, cell by cell -/
def eqCell : AV → AV → Option Bool
  | .int k a, .int k' b => if k = k' then some (a == b) else none
  | .bool a, .bool b => some (a == b)
  | .str a, .str b => some (a == b)
  | _, _ => none
def eqCells : List AV → List AV → Option Bool
  | [], [] => some true
  | a :: as, b :: bs => match eqCell a b, eqCells as bs with
    | some x, some y => some (x && y)
    | _, _ => none
  | _, _ => none

theorem eqCells_nth : ∀ {as bs : List AV} {r : Bool}, eqCells as bs = some r → as.length = bs.length ∧ (∀ o n, ∃ r', eqCells ((as.drop o).take n) ((bs.drop o).take n) = some r')
  | [], [], r, h => ⟨rfl, fun o n => ⟨true, by simp [eqCells]⟩⟩
  | [], _ :: _, _, h => by simp [eqCells] at h
  | _ :: _, [], _, h => by simp [eqCells] at h
  | a :: as, b :: bs, r, h => by
    unfold eqCells at h
    split at h
    · rename_i x y h1 h2
      obtain ⟨hl, hp⟩ := eqCells_nth h2
      refine ⟨by simp [hl], fun o n => ?_⟩
      cases o with
      | zero =>
        cases n with
        | zero => exact ⟨true, by simp [eqCells]⟩
        | succ n =>
          obtain ⟨r', hr'⟩ := hp 0 n
          simp only [List.drop_zero] at hr' ⊢
          exact ⟨x && r', by simp [eqCells, h1, hr']⟩
      | succ o => simpa using hp o n
    · cases h

theorem eqCells_append {as bs cs ds : List AV} {x y : Bool} (h : eqCells as bs = some x) (k : eqCells cs ds = some y) : eqCells (as ++ cs) (bs ++ ds) = some (x && y) := by
  induction as generalizing bs x with
  | nil =>
    cases bs with
    | nil => simp [eqCells] at h; subst h; simpa using k
    | cons => simp [eqCells] at h
  | cons a as ih =>
    cases bs with
    | nil => simp [eqCells] at h
    | cons b bs =>
      unfold eqCells at h
      split at h
      · rename_i x' y' h1 h2
        cases h
        simp [eqCells, h1, ih h2, Bool.and_assoc]
      · cases h

theorem eqCells_split {as bs : List AV} {r : Bool} (h : eqCells as bs = some r) (n : Nat) :
    ∃ x y, eqCells (as.take n) (bs.take n) = some x ∧ eqCells (as.drop n) (bs.drop n) = some y ∧ r = (x && y) := by
  obtain ⟨hl, hp⟩ := eqCells_nth h
  obtain ⟨x, hx⟩ := hp 0 n
  obtain ⟨y, hy⟩ := hp n as.length
  simp only [List.drop_zero] at hx
  rw [List.take_of_length_le (by simp), List.take_of_length_le (by simp; omega)] at hy
  refine ⟨x, y, hx, hy, ?_⟩
  have := eqCells_append hx hy
  rw [List.take_append_drop, List.take_append_drop, h] at this
  simpa using this

/-- What kinds of cells a type has, where '==' is '==' cell by cell. -/
inductive LK where
  | b | s
  | i (k : IntKind)
def kindOk : LK → AV → Bool
  | .b, .bool _ => true
  | .s, .str _ => true
  | .i k, .int k' _ => decide (k = k')
  | _, _ => false
def kindsOk : List LK → List AV → Bool
  | [], [] => true
  | k :: ks, a :: as => kindOk k a && kindsOk ks as
  | _, _ => false
def kindsFields (P : Program) (lk : TypeId → Option (List LK)) : Nat → List Field → Option (List LK)
  | _, [] => some []
  | off, f :: fs => match elI P f.type, lk f.type with
    | some (s, _, _), some ks => if f.name ≠ "_" ∧ f.offset = off ∧ ks.length = s then (kindsFields P lk (off + s) fs).map (ks ++ ·) else none
    | _, _ => none
def leafKinds (P : Program) : Nat → TypeId → Option (List LK)
  | 0, _ => none
  | n + 1, t => match P.underlying t with
    | some .bool => some [.b]
    | some .string => some [.s]
    | some (.int k) => some [.i k]
    | some (.array len e) => match elI P e, leafKinds P n e with
      | some (s, _, _), some ks => if ks.length = s then some ((List.replicate len ks).flatten) else none
      | _, _ => none
    | some (.struct fs) => if P.stoodInHeld t = true then none else kindsFields P (leafKinds P n) 0 fs.toList
    | _ => none

theorem kindsOk_length : ∀ {ks : List LK} {as : List AV}, kindsOk ks as = true → as.length = ks.length
  | [], [], _ => rfl
  | [], _ :: _, h => by simp [kindsOk] at h
  | _ :: _, [], h => by simp [kindsOk] at h
  | k :: ks, a :: as, h => by simp only [kindsOk, Bool.and_eq_true] at h; simp [kindsOk_length h.2]
theorem kindsOk_append : ∀ {ks ls : List LK} {as : List AV}, kindsOk (ks ++ ls) as = true → kindsOk ks (as.take ks.length) = true ∧ kindsOk ls (as.drop ks.length) = true
  | [], ls, as, h => by simpa [kindsOk] using h
  | k :: ks, ls, [], h => by simp [kindsOk] at h
  | k :: ks, ls, a :: as, h => by
    simp only [List.cons_append, kindsOk, Bool.and_eq_true] at h
    have := kindsOk_append h.2
    simp [kindsOk, h.1, this]

def valOf (a : Bool) (xs : List Value) : Value := if a then .agg ⟨xs⟩ else xs.getD 0 undef

def EqAt (P : Program) (n : Nat) (t : TypeId) (a : Bool) (ks : List LK) : Prop :=
  ∀ (M : Mem) (as bs : List AV) (xs ys : List Value) (r : Bool) (w : World) (d : Nat), n ≤ d → kindsOk ks as = true → kindsOk ks bs = true → VRels M true as xs → VRels M true bs ys → eqCells as bs = some r →
    (Op.equalIn d t (valOf a xs) (valOf a ys)).run P w = .ok r w

theorem run_part {e : TypeId} {s b : Nat} {a : Bool} (he : elI P e = some (s, b, a)) (w : World) (xs : List Value) (o : Nat) (hs : a = true ∨ s = 1) (ho : o + s ≤ xs.length) :
    (part e ⟨xs⟩ o).run P w = .ok (valOf a ((xs.drop o).take s)) w := by
  cases a
  · have hs : s = 1 := hs.resolve_left (by simp)
    subst hs
    simp only [part, Sem.run_bind, run_isAgg_el he, Result.andThen_ok, Bool.false_eq_true, if_false]
    have h1 : (⟨xs⟩ : Array Value)[o]? = some xs[o] := by simp
    have h2 : valOf false ((xs.drop o).take 1) = xs[o] := by
      simp [valOf, List.getD, List.getElem?_drop]
      rw [List.getElem?_eq_getElem (by omega)]; rfl
    rw [h1, h2]
    rfl
  · have : (⟨xs⟩ : Array Value).extract o (o + s) = ⟨(xs.drop o).take s⟩ := by
      apply Array.ext'
      simp
    simp only [part, Sem.run_bind, run_isAgg_el he, run_sizeOf_el he, Result.andThen_ok, if_true, this, valOf]
    rfl

/-- The leaves of size 1 or an aggregate. -/
theorem leafKinds_agg {n : Nat} {t : TypeId} {ks : List LK} {s b : Nat} {a : Bool} (h : leafKinds P n t = some ks) (he : elI P t = some (s, b, a)) : a = true ∨ ks.length = 1 := by
  obtain ⟨i, d, h1, h2, h3, h4, h5⟩ := elI_spec he
  cases n with
  | zero => simp [leafKinds] at h
  | succ n =>
    unfold leafKinds at h
    rw [h2] at h
    cases d <;> simp only at h <;> first | (cases h; done) | (left; rw [← h5]; rfl) | (cases h; right; rfl)

theorem eq_fields {n d : Nat} (hnd : n ≤ d) (ih : ∀ t s b a ks, elI P t = some (s, b, a) → leafKinds P n t = some ks → EqAt P n t a ks) (M : Mem) (w : World) (xs ys : List Value) :
    ∀ (fs : List Field) (off : Nat) (ks : List LK) (as bs : List AV) (r : Bool), kindsFields P (leafKinds P n) off fs = some ks → kindsOk ks as = true → kindsOk ks bs = true →
      VRels M true as (xs.drop off) → VRels M true bs (ys.drop off) → off ≤ xs.length → off ≤ ys.length → eqCells as bs = some r → (Op.eqFields d ⟨xs⟩ ⟨ys⟩ fs).run P w = .ok r w
  | [], off, ks, as, bs, r, hk, ha, hb, hx, hy, hox, hoy, he => by
    cases hk
    cases as with
    | nil =>
      cases bs with
      | nil => simp [eqCells] at he; subst he; rfl
      | cons => simp [eqCells] at he
    | cons => simp [kindsOk] at ha
  | f :: fs, off, ks, as, bs, r, hk, ha, hb, hx, hy, hox, hoy, he => by
    unfold kindsFields at hk
    split at hk
    · rename_i s b a kf h1 h2
      split at hk
      · rename_i hc
        obtain ⟨hn, ho, hs⟩ := hc
        cases hr : kindsFields P (leafKinds P n) (off + s) fs with
        | none => simp [hr] at hk
        | some kr =>
          simp only [hr, Option.map_some, Option.some.injEq] at hk
          subst hk
          obtain ⟨ha1, ha2⟩ := kindsOk_append ha
          obtain ⟨hb1, hb2⟩ := kindsOk_append hb
          obtain ⟨x, y, e1, e2, rfl⟩ := eqCells_split he kf.length
          have hla := kindsOk_length ha
          have hlb := kindsOk_length hb
          have hxl := hx.length
          have hyl := hy.length
          simp only [List.length_append, List.length_drop] at hla hlb hxl hyl
          have hsz := leafKinds_agg h2 h1
          rw [hs] at hsz ha1 ha2 hb1 hb2 e1 e2
          have p1 := run_part h1 w xs f.offset hsz (by omega)
          have p2 := run_part h1 w ys f.offset hsz (by omega)
          have hq := ih f.type s b a kf h1 h2 M _ _ _ _ x w d hnd ha1 hb1 (hx.take s) (hy.take s) e1
          rw [ho] at p1 p2
          unfold Op.eqFields
          rw [if_pos hn]
          simp only [Sem.run_bind, ho, p1, p2, Result.andThen_ok, hq]
          cases x
          · simp
          · simp only [Bool.not_true, Bool.false_eq_true, if_false, Bool.true_and]
            refine eq_fields hnd ih M w xs ys fs (off + s) kr _ _ y hr ha2 hb2 ?_ ?_ (by omega) (by omega) e2
            · have := hx.drop s; rwa [List.drop_drop] at this
            · have := hy.drop s; rwa [List.drop_drop] at this
      · cases hk
    · cases hk

/-- '==' of the elements of two arrays from place i on. -/
def eqElems (d : Nat) (e : TypeId) (n : Nat) (xs ys : Array Value) : List Nat → Sem Bool
  | [] => pure true
  | i :: is => do
    let a ← part e xs (i * n)
    let b ← part e ys (i * n)
    let r ← Op.equalIn d e a b
    if (!r) = true then pure false else eqElems d e n xs ys is

theorem run_equalIn_array (w : World) (d : Nat) (t e : TypeId) (len n : Nat) (xs ys : Array Value) (ht : P.underlying t = some (.array len e)) (hn : ∀ w, (sizeOf e).run P w = .ok n w) :
    (Op.equalIn (d + 1) t (.agg xs) (.agg ys)).run P w = (eqElems d e n xs ys (List.range' 0 len)).run P w := by
  simp only [Op.equalIn, Sem.run_bind, run_underlying ht, Result.andThen_ok, hn]
  rw [Std.Legacy.Range.forIn_eq_forIn_range']
  simp only [Std.Legacy.Range.size, Nat.sub_zero, Nat.add_sub_cancel, Nat.div_one]
  generalize List.range' 0 len = l
  clear ht
  induction l generalizing w with
  | nil => simp [eqElems]
  | cons i l ih =>
    simp only [List.forIn_cons, eqElems, Sem.run_bind]
    generalize (part e xs (i * n)).run P w = r1
    cases r1 with
    | ok a w1 =>
      simp only [Result.andThen_ok]
      generalize (part e ys (i * n)).run P w1 = r2
      cases r2 with
      | ok b w2 =>
        simp only [Result.andThen_ok]
        generalize (Op.equalIn d e a b).run P w2 = r3
        cases r3 with
        | ok r w3 =>
          cases r
          · simp only [Result.andThen_ok, Bool.not_false, if_true, Sem.run_pure]
          · simp only [Result.andThen_ok, Bool.not_true, Bool.false_eq_true, if_false, Sem.run_pure]
            exact ih w3
        | halt x w3 => simp [Result.andThen]
      | halt x w2 => simp [Result.andThen]
    | halt x w1 => simp [Result.andThen]

theorem eq_elems {n d : Nat} (hnd : n ≤ d) {e : TypeId} {s b : Nat} {a : Bool} {kf : List LK} (h1 : elI P e = some (s, b, a)) (h2 : leafKinds P n e = some kf) (hs : kf.length = s) (ih : EqAt P n e a kf) (M : Mem) (w : World) (xs ys : List Value) :
    ∀ (len i : Nat) (as bs : List AV) (r : Bool), kindsOk ((List.replicate len kf).flatten) as = true → kindsOk ((List.replicate len kf).flatten) bs = true →
      VRels M true as (xs.drop (i * s)) → VRels M true bs (ys.drop (i * s)) → eqCells as bs = some r → (eqElems d e s ⟨xs⟩ ⟨ys⟩ (List.range' i len)).run P w = .ok r w
  | 0, i, as, bs, r, ha, hb, hx, hy, he => by
    cases as with
    | nil =>
      cases bs with
      | nil => simp [eqCells] at he; subst he; rfl
      | cons => simp [eqCells] at he
    | cons => simp [kindsOk] at ha
  | len + 1, i, as, bs, r, ha, hb, hx, hy, he => by
    rw [List.replicate_succ, List.flatten_cons] at ha hb
    obtain ⟨ha1, ha2⟩ := kindsOk_append ha
    obtain ⟨hb1, hb2⟩ := kindsOk_append hb
    obtain ⟨x, y, e1, e2, rfl⟩ := eqCells_split he kf.length
    have hla := kindsOk_length ha
    have hlb := kindsOk_length hb
    have hxl := hx.length
    have hyl := hy.length
    simp only [List.length_append, List.length_drop] at hla hlb hxl hyl
    have hsz := leafKinds_agg h2 h1
    rw [hs] at hsz ha1 ha2 hb1 hb2 e1 e2 hla hlb
    have hpos : s ≠ 0 → i * s + s ≤ xs.length ∧ i * s + s ≤ ys.length := fun h => by omega
    by_cases h0 : s = 0
    · -- elements without cells
      have hat : a = true := hsz.resolve_right (by omega)
      subst hat
      have q1 : ∀ zs : List Value, (part e ⟨zs⟩ (i * s)).run P w = .ok (.agg ⟨[]⟩) w := fun zs => by
        have : (⟨zs⟩ : Array Value).extract (i * s) (i * s + s) = ⟨[]⟩ := by apply Array.ext'; simp [h0]
        simp only [part, Sem.run_bind, run_isAgg_el h1, run_sizeOf_el h1, Result.andThen_ok, if_true, this]
        rfl
      have hq := ih M _ _ [] [] x w d hnd ha1 hb1 (by rw [h0]; simp [VRels]) (by rw [h0]; simp [VRels]) e1
      simp only [List.range'_succ, eqElems, Sem.run_bind, q1, Result.andThen_ok]
      simp only [valOf, if_true] at hq
      rw [hq]
      cases x
      · simp
      · simp only [Result.andThen_ok, Bool.not_true, Bool.false_eq_true, if_false, Bool.true_and]
        refine eq_elems hnd h1 h2 hs ih M w xs ys len (i + 1) _ _ y ha2 hb2 ?_ ?_ e2
        · have := hx.drop s; rw [List.drop_drop] at this; rwa [Nat.succ_mul]
        · have := hy.drop s; rw [List.drop_drop] at this; rwa [Nat.succ_mul]
    · obtain ⟨hpx, hpy⟩ := hpos h0
      have p1 := run_part h1 w xs (i * s) hsz hpx
      have p2 := run_part h1 w ys (i * s) hsz hpy
      have hq := ih M _ _ _ _ x w d hnd ha1 hb1 (hx.take s) (hy.take s) e1
      simp only [List.range'_succ, eqElems, Sem.run_bind, p1, p2, Result.andThen_ok, hq]
      cases x
      · simp
      · simp only [Bool.not_true, Bool.false_eq_true, if_false, Bool.true_and]
        refine eq_elems hnd h1 h2 hs ih M w xs ys len (i + 1) _ _ y ha2 hb2 ?_ ?_ e2
        · have := hx.drop s; rw [List.drop_drop] at this; rwa [Nat.succ_mul]
        · have := hy.drop s; rw [List.drop_drop] at this; rwa [Nat.succ_mul]

theorem leaf1 {ks : LK} {as : List AV} {xs : List Value} {M : Mem} (h : kindsOk [ks] as = true) (hr : VRels M true as xs) : ∃ a x, as = [a] ∧ xs = [x] ∧ kindOk ks a = true ∧ VRel M true a x := by
  cases as with
  | nil => simp [kindsOk] at h
  | cons a as =>
    cases as with
    | nil =>
      obtain ⟨x, l, rfl, h1, h2⟩ := hr
      cases h2
      exact ⟨a, x, rfl, rfl, by simpa [kindsOk] using h, h1⟩
    | cons => simp [kindsOk] at h

theorem eqAt : ∀ (n : Nat) (t : TypeId) (s b : Nat) (a : Bool) (ks : List LK), elI P t = some (s, b, a) → leafKinds P n t = some ks → EqAt P n t a ks
  | 0, _, _, _, _, _, _, h => by simp [leafKinds] at h
  | n + 1, t, s, b, a, ks, he, h => by
    have ih := eqAt n
    obtain ⟨inf, dd, h1, h2, h3, h4, h5⟩ := elI_spec he
    intro M as bs xs ys r w d hd ka kb hx hy hq
    obtain ⟨d, rfl⟩ : ∃ m, d = m + 1 := ⟨d - 1, by omega⟩
    unfold leafKinds at h
    rw [h2] at h
    cases dd <;> simp only at h <;> try (cases h; done)
    case bool =>
      cases h
      subst h5
      obtain ⟨u, x, rfl, rfl, k1, r1⟩ := leaf1 ka hx
      obtain ⟨v, y, rfl, rfl, k2, r2⟩ := leaf1 kb hy
      cases u <;> simp [kindOk] at k1
      cases v <;> simp [kindOk] at k2
      simp only [VRel] at r1 r2
      subst r1 r2
      simp [eqCells, eqCell] at hq
      simp [valOf, isAggD, Op.equalIn, underlying, h2, hq]
    case string =>
      cases h
      subst h5
      obtain ⟨u, x, rfl, rfl, k1, r1⟩ := leaf1 ka hx
      obtain ⟨v, y, rfl, rfl, k2, r2⟩ := leaf1 kb hy
      cases u <;> simp [kindOk] at k1
      cases v <;> simp [kindOk] at k2
      simp only [VRel] at r1 r2
      subst r1 r2
      simp [eqCells, eqCell] at hq
      simp [valOf, isAggD, Op.equalIn, underlying, h2, hq]
    case int k =>
      cases h
      subst h5
      obtain ⟨u, x, rfl, rfl, k1, r1⟩ := leaf1 ka hx
      obtain ⟨v, y, rfl, rfl, k2, r2⟩ := leaf1 kb hy
      cases u <;> simp [kindOk] at k1
      cases v <;> simp [kindOk] at k2
      simp only [VRel] at r1 r2
      subst r1 r2 k1 k2
      simp [eqCells, eqCell] at hq
      simp [valOf, isAggD, Op.equalIn, underlying, h2, hq]
    case array len e =>
      subst h5
      split at h
      · rename_i s' b' a' kf q1 q2
        split at h
        · rename_i hs
          cases h
          have := eq_elems (d := d) (by omega) q1 q2 hs (ih e s' b' a' kf q1 q2) M w xs ys len 0 as bs r ka kb (by simpa using hx) (by simpa using hy) hq
          simp only [valOf, isAggD, if_true]
          rw [run_equalIn_array w d t e len s' ⟨xs⟩ ⟨ys⟩ h2 (fun w => run_sizeOf_el q1 w)]
          exact this
        · cases h
      · cases h
    case struct fs =>
      subst h5
      split at h
      · cases h
      · rename_i hst
        have hf : P.underlying t = some (.struct (P.fieldsOf t)) := by simp [Program.fieldsOf, h2]
        have hfs : P.fieldsOf t = fs := by simp [Program.fieldsOf, h2]
        simp only [valOf, isAggD, if_true]
        rw [run_equalIn_struct w d t ⟨xs⟩ ⟨ys⟩ hf (by simpa using hst), hfs]
        exact eq_fields (by omega) ih M w xs ys fs.toList 0 ks as bs r h ka kb (by simpa using hx) (by simpa using hy) (Nat.zero_le _) (Nat.zero_le _) hq
end Go.Am
