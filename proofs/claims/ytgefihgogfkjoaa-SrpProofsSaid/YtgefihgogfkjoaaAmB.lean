/-
  AmB: AmExec, AmStep, AmRegion, AmInd, AmAny, AmRun, AmSpec
-/
import Derived.Test.YtgefihgogfkjoaaAmA
set_option linter.unusedSimpArgs false
set_option linter.unusedVariables false
/-! 'Am', part 13: one operation; calls by contract. -/
namespace Go.Am
variable {P : Program} {X : Ctx} {h : HP} {M : Mem}

def withTy {α : Type} (P : Program) (t : TypeId) (f : TyI → Option α) : Option α :=
  match tyI P t with
  | some i => f i
  | none => none
theorem withTy_spec {α : Type} {t : TypeId} {f : TyI → Option α} {r : α} (h : withTy P t f = some r) : ∃ i, tyI P t = some i ∧ f i = some r := by
  unfold withTy at h
  split at h
  · exact ⟨_, by assumption, h⟩
  · cases h

def nilA (h : HP) (x : AV) : Option AV :=
  match x with
  | .ptr id off => if (h.bk id).isSome = true then some (.ptr id off) else none
  | .rp cs => some (.rp cs)
  | .fn (.func f) a b => some (.fn (.func f) a b)
  | _ => none

def bltA (P : Program) (b : Builtin) (args : List AV) (ts : List TypeId) (h : HP) : Option (AV × HP) :=
  match b, args, ts with
  | .len, [x], [t] => withTy P t fun i => (lenA i h x).map fun (n : Nat) => (.int .i64 (n : Int), h)
  | .append, [x, y], [t, t2] => withTy P t fun i => withTy P t2 fun i2 => appendA P i i2 h x y
  | .copy, [x, y], [t, _] => withTy P t fun i => copyA i h x y
  | .max, [x, y], _ => (maxA x y).map fun v => (v, h)
  | .min, [x, y], _ => (minA x y).map fun v => (v, h)
  | _, _, _ => none

/-- An operation that calls no Go function. -/
def exec (P : Program) (op : Op) (ρ : Operand → AV) (h : HP) : Option (AV × HP) :=
  match op with
  | .move x => some (ρ x, h)
  | .assign x => some (ρ x, h)
  | .pick c a b => (match ρ c with
    | .bool t => some (if t then ρ a else ρ b, h)
    | _ => none)
  | .alloc t => withTy P t fun i => some (.ptr h.nt 0, h.add ⟨i.zero, true⟩)
  | .box _ x => (cellsA (ρ x)).map fun cs => (.ptr h.nt 0, h.add ⟨cs, true⟩)
  | .build t ps => withTy P t fun i => (buildA i (evParts ρ ps)).map fun v => (v, h)
  | .buildSlice t n ps => withTy P t fun i => buildSliceA P i h n (evParts ρ ps)
  | .load t x => withTy P t fun i => (loadA i h (ρ x)).map fun v => (v, h)
  | .store t a v => withTy P t fun i => (storeA i h (ρ a) (ρ v)).map fun h' => (.dead, h')
  | .nilCheck x => (nilA h (ρ x)).map fun v => (v, h)
  | .binOp op t x y _ => (binA P op t (ρ x) (ρ y)).map fun v => (v, h)
  | .unOp op _ x => (unA op (ρ x)).map fun v => (v, h)
  | .convert s d x => match convOwn P s d h (ρ x) with
    | some r => some r
    | none => withTy P s fun i => withTy P d fun i2 => (convA P i i2 h (ρ x)).map fun v => (v, h)
  | .makeFunc fn a b => some (.fn fn (a.toList.map ρ) (b.toList.map ρ), h)
  | .makeSlice t l c => withTy P t fun i => makeA P i h (ρ l) (ρ c)
  | .slice t x lo hi mx => withTy P t fun i => (sliceA i h (ρ x) (lo.map ρ) (hi.map ρ) (mx.map ρ)).map fun v => (v, h)
  | .fieldAddr t x f => withTy P t fun i => (fieldAddrA i h f (ρ x)).map fun v => (v, h)
  | .field t x f => withTy P t fun i => (fieldA i f (ρ x)).map fun v => (v, h)
  | .indexAddr t x ix => withTy P t fun i => (indexAddrA i h (ρ x) (ρ ix)).map fun v => (v, h)
  | .index t x ix => withTy P t fun i => (indexA i (ρ x) (ρ ix)).map fun v => (v, h)
  | .extract x j => (extractA (ρ x) j).map fun v => (v, h)
  | .call { callee := .builtin b, args, argTypes } => bltA P b (args.toList.map ρ) argTypes.toList h
  | _ => none

/-- What an operation leaves: a value for its slot, or nothing. -/
def NextRel (M : Mem) (v : AV) : Next → Prop
  | .value u => VRel M true v u
  | .skip => v = .dead
  | _ => False

theorem map_some {α β : Type} {o : Option α} {f : α → β} {r : β} (h : o.map f = some r) : ∃ a, o = some a ∧ f a = r := by
  cases o with
  | none => cases h
  | some a => exact ⟨a, rfl, by simpa using h⟩

theorem exec_sound (H : HRel X h M) (o : Oper) {ρa : Operand → AV} {ρc : Operand → Value} (hρ : ∀ x, VRel M true (ρa x) (ρc x)) {v : AV} {h' : HP} (he : exec P o.op ρa h = some (v, h')) :
    ∃ M' nx, (execOp ρc o).run P M.w = .ok nx M'.w ∧ M.le M' ∧ M'.O = M.O ∧ HRel X h' M' ∧ NextRel M' v nx := by
  have same : ∀ {c : AV} {s : Sem Value}, (∃ u, s.run P M.w = .ok u M.w ∧ VRel M true c u) → v = c → h' = h → (∀ w : World, (execOp ρc o).run P w = ((do pure (.value (← s)) : Sem Next)).run P w) →
      ∃ M' nx, (execOp ρc o).run P M.w = .ok nx M'.w ∧ M.le M' ∧ M'.O = M.O ∧ HRel X h' M' ∧ NextRel M' v nx := by
    rintro c s ⟨u, hu, hr⟩ rfl rfl hs
    exact ⟨M, .value u, by rw [hs]; simp [hu], Mem.le.refl M, rfl, H, hr⟩
  have more : ∀ {c : AV} {k : HP} {s : Sem Value}, (∃ M' u, s.run P M.w = .ok u M'.w ∧ M.le M' ∧ M'.O = M.O ∧ HRel X k M' ∧ VRel M' true c u) → v = c → h' = k → (∀ w : World, (execOp ρc o).run P w = ((do pure (.value (← s)) : Sem Next)).run P w) →
      ∃ M' nx, (execOp ρc o).run P M.w = .ok nx M'.w ∧ M.le M' ∧ M'.O = M.O ∧ HRel X h' M' ∧ NextRel M' v nx := by
    rintro c k s ⟨M', u, hu, h1, h2, h3, hr⟩ rfl rfl hs
    exact ⟨M', .value u, by rw [hs]; simp [hu], h1, h2, h3, hr⟩
  obtain ⟨dst, op, ty, pos, aft, gd⟩ := o
  cases op <;> simp only [exec] at he <;> try (cases he; done)
  case move x => cases he; exact ⟨M, .value (ρc x), rfl, Mem.le.refl M, rfl, H, hρ x⟩
  case assign x => cases he; exact ⟨M, .value (ρc x), rfl, Mem.le.refl M, rfl, H, hρ x⟩
  case pick c a b =>
    split at he
    · rename_i t ht
      cases he
      have hc := hρ c
      rw [ht] at hc
      simp only [VRel] at hc
      refine ⟨M, .value (if t then ρc a else ρc b), by simp [execOp, hc, asBool], Mem.le.refl M, rfl, H, ?_⟩
      cases t
      · exact hρ b
      · exact hρ a
    · cases he
  case alloc t =>
    obtain ⟨i, hi, he⟩ := withTy_spec he
    cases he
    exact more (alloc_sound H hi) rfl rfl (fun _ => rfl)
  case box t x =>
    obtain ⟨cs, hcs, he⟩ := map_some he
    cases he
    exact more (box_sound H (hρ x) hcs) rfl rfl (fun _ => rfl)
  case build t ps =>
    obtain ⟨i, hi, he⟩ := withTy_spec he
    obtain ⟨c, hc, he⟩ := map_some he
    cases he
    exact same (build_sound hi (fun x _ => hρ x) hc) rfl rfl (fun _ => rfl)
  case buildSlice t n ps =>
    obtain ⟨i, hi, he⟩ := withTy_spec he
    exact more (buildSlice_sound H hi (fun x _ => hρ x) he) rfl rfl (fun _ => rfl)
  case load t x =>
    obtain ⟨i, hi, he⟩ := withTy_spec he
    obtain ⟨c, hc, he⟩ := map_some he
    cases he
    exact same (loadA_sound H hi (hρ x) hc) rfl rfl (fun _ => rfl)
  case store t a b =>
    obtain ⟨i, hi, he⟩ := withTy_spec he
    obtain ⟨c, hc, he⟩ := map_some he
    cases he
    obtain ⟨M', h1, h2, h3, h4⟩ := storeA_sound H hi (hρ a) (hρ b) hc
    exact ⟨M', .skip, by simp [execOp, h1], h2, h3, h4, rfl⟩
  case nilCheck x =>
    obtain ⟨c, hc, he⟩ := map_some he
    cases he
    have hx := hρ x
    unfold nilA at hc
    split at hc
    · rename_i id off hp
      rw [hp] at hx
      split at hc
      · rename_i hs
        cases hc
        have hx0 := hx
        obtain ⟨_, _, _, h7⟩ := hx
        have := h7 ((H.dom id).2 hs)
        exact ⟨M, .value (.pointer (some ⟨M.φ id, off, none⟩)), by simp [execOp, this], Mem.le.refl M, rfl, H, this ▸ hx0⟩
      · cases hc
    · rename_i cs hp
      cases hc
      rw [hp] at hx
      have hx0 := hx
      obtain ⟨b, off, C, e, fz, hv, _⟩ := hx
      exact ⟨M, .value (ρc x), by simp [execOp, hv], Mem.le.refl M, rfl, H, hx0⟩
    · rename_i f a b hp
      cases hc
      rw [hp] at hx
      have hx0 := hx
      obtain ⟨_, _, hv, _⟩ := hx
      exact ⟨M, .value (ρc x), by simp [execOp, hv], Mem.le.refl M, rfl, H, hx0⟩
    · cases hc
  case binOp op t x y ty2 =>
    obtain ⟨c, hc, he⟩ := map_some he
    cases he
    exact same (bin_sound (hρ x) (hρ y) hc) rfl rfl (fun _ => rfl)
  case unOp op t x =>
    obtain ⟨c, hc, he⟩ := map_some he
    cases he
    exact same (un_sound (hρ x) hc) rfl rfl (fun _ => rfl)
  case convert s d x =>
    split at he
    · rename_i r hr
      cases he
      exact more (convOwn_sound H (hρ x) hr) rfl rfl (fun _ => rfl)
    obtain ⟨i, hi, he⟩ := withTy_spec he
    obtain ⟨i2, hi2, he⟩ := withTy_spec he
    obtain ⟨c, hc, he⟩ := map_some he
    cases he
    exact more (conv_sound H hi hi2 (hρ x) hc) rfl rfl (fun _ => rfl)
  case makeFunc fn a b =>
    cases he
    refine ⟨M, .value (.func fn (a.map ρc) (b.map ρc)), rfl, Mem.le.refl M, rfl, H, ?_⟩
    have hm : ∀ l : List Operand, VRels M true (l.map ρa) (l.map ρc) := by
      intro l
      induction l with
      | nil => rfl
      | cons x l ih => exact ⟨_, _, rfl, hρ x, ih⟩
    exact ⟨a.toList.map ρc, b.toList.map ρc, by rw [← Array.toList_map, ← Array.toList_map], hm _, hm _⟩
  case makeSlice t l c =>
    obtain ⟨i, hi, he⟩ := withTy_spec he
    exact more (make_sound H hi (hρ l) (hρ c) he) rfl rfl (fun _ => rfl)
  case slice t x lo hi2 mx =>
    obtain ⟨i, hi, he⟩ := withTy_spec he
    obtain ⟨c, hc, he⟩ := map_some he
    cases he
    have ho : ∀ z : Option Operand, ORel M (z.map ρa) (z.map ρc) := fun z => by
      cases z with
      | none => trivial
      | some x => exact hρ x
    exact same (slice_sound H hi (hρ x) (ho lo) (ho hi2) (ho mx) hc) rfl rfl (fun _ => rfl)
  case fieldAddr t x f =>
    obtain ⟨i, hi, he⟩ := withTy_spec he
    obtain ⟨c, hc, he⟩ := map_some he
    cases he
    exact same (fieldAddr_sound H hi (hρ x) hc) rfl rfl (fun _ => rfl)
  case field t x f =>
    obtain ⟨i, hi, he⟩ := withTy_spec he
    obtain ⟨c, hc, he⟩ := map_some he
    cases he
    exact same (field_sound hi (hρ x) hc) rfl rfl (fun _ => rfl)
  case indexAddr t x ix =>
    obtain ⟨i, hi, he⟩ := withTy_spec he
    obtain ⟨c, hc, he⟩ := map_some he
    cases he
    exact same (indexAddr_sound H hi (hρ x) (hρ ix) hc) rfl rfl (fun _ => rfl)
  case index t x ix =>
    obtain ⟨i, hi, he⟩ := withTy_spec he
    obtain ⟨c, hc, he⟩ := map_some he
    cases he
    exact same (index_sound hi (hρ x) (hρ ix) hc) rfl rfl (fun _ => rfl)
  case extract x j =>
    obtain ⟨c, hc, he⟩ := map_some he
    cases he
    exact same (extract_sound (hρ x) hc) rfl rfl (fun _ => rfl)
  case call c =>
    obtain ⟨callee, args, argTypes⟩ := c
    cases callee <;> simp only at he <;> try (cases he; done)
    rename_i b
    obtain ⟨args⟩ := args
    obtain ⟨ts⟩ := argTypes
    simp only at he
    unfold bltA at he
    split at he
    · rename_i x t h1
      obtain ⟨i, hi, he⟩ := withTy_spec he
      obtain ⟨n, hn, he⟩ := map_some he
      cases he
      match args, h1 with
      | [a], h1 =>
        simp only [List.map_cons, List.map_nil, List.cons.injEq, and_true] at h1
        subst h1
        have := len_sound (P := P) (ty := ty) H hi (hρ a) hn
        exact ⟨M, .value (.int .i64 n), by simp [execOp, resolve, invoke, builtin, this], Mem.le.refl M, rfl, H, rfl⟩
    · rename_i x y t t2 h1
      obtain ⟨i, hi, he⟩ := withTy_spec he
      obtain ⟨i2, hi2, he⟩ := withTy_spec he
      match args, h1 with
      | [a, b], h1 =>
        simp only [List.map_cons, List.map_nil, List.cons.injEq, and_true] at h1
        obtain ⟨rfl, rfl⟩ := h1
        obtain ⟨M', u, q1, q2, q3, q4, q5⟩ := append_sound (ty := ty) H hi hi2 (hρ a) (hρ b) he
        exact ⟨M', .value u, by simp [execOp, resolve, invoke, builtin, q1], q2, q3, q4, q5⟩
    · rename_i x y t t2 h1
      obtain ⟨i, hi, he⟩ := withTy_spec he
      match args, h1 with
      | [a, b], h1 =>
        simp only [List.map_cons, List.map_nil, List.cons.injEq, and_true] at h1
        obtain ⟨rfl, rfl⟩ := h1
        obtain ⟨M', u, q1, q2, q3, q4, q5⟩ := copy_sound (t2 := t2) (ty := ty) H hi (hρ a) (hρ b) he
        exact ⟨M', .value u, by simp [execOp, resolve, invoke, builtin, q1], q2, q3, q4, q5⟩
    · rename_i ts0 _ _ tl x y h1
      obtain ⟨n, hn, he⟩ := map_some he
      cases he
      match args, h1 with
      | [a, b], h1 =>
        simp only [List.map_cons, List.map_nil, List.cons.injEq, and_true] at h1
        obtain ⟨rfl, rfl⟩ := h1
        obtain ⟨u, q1, q2⟩ := max_sound (P := P) (ts := ⟨ts0⟩) (ty := ty) (hρ a) (hρ b) hn
        exact ⟨M, .value u, by simp [execOp, resolve, invoke, builtin, q1], Mem.le.refl M, rfl, H, q2⟩
    · rename_i ts0 _ _ tl x y h1
      obtain ⟨n, hn, he⟩ := map_some he
      cases he
      match args, h1 with
      | [a, b], h1 =>
        simp only [List.map_cons, List.map_nil, List.cons.injEq, and_true] at h1
        obtain ⟨rfl, rfl⟩ := h1
        obtain ⟨u, q1, q2⟩ := min_sound (P := P) (ts := ⟨ts0⟩) (ty := ty) (hρ a) (hρ b) hn
        exact ⟨M, .value u, by simp [execOp, resolve, invoke, builtin, q1], Mem.le.refl M, rfl, H, q2⟩
    · cases he

end Go.Am

/-! 'Am', part 14: calls by contract, one step of a region, and that a region's steps may be taken in any order. -/
namespace Go.Am
variable {P : Program} {X : Ctx} {h : HP} {M : Mem}

mutual
/-- Names none of the call's own blocks. -/
def noRef : AV → Bool
  | .ptr _ _ | .sl _ _ _ _ => false
  | .agg cs => noRefs cs
  | .tup cs => noRefs cs
  | .fn _ a b => noRefs a && noRefs b
  | .int _ _ | .bool _ | .str _ | .exact _ | .ro _ _ | .rp _ | .nils | .dead => true
def noRefs : List AV → Bool
  | [] => true
  | c :: cs => noRef c && noRefs cs
end
mutual
/-- Speaks of no memory. -/
def flat : AV → Bool
  | .ptr _ _ | .sl _ _ _ _ | .ro _ _ | .rp _ => false
  | .agg cs => flats cs
  | .tup cs => flats cs
  | .fn _ a b => flats a && flats b
  | .int _ _ | .bool _ | .str _ | .exact _ | .nils | .dead => true
def flats : List AV → Bool
  | [] => true
  | c :: cs => flat c && flats cs
end

/-- What M' must keep of M for what names no block. -/
structure Mem.sees (M M' : Mem) : Prop where
  w : M'.w = M.w
  free : ∀ b, M.free b → M'.free b

mutual
theorem VRel.sees {M M' : Mem} (hs : M.sees M') {r r' : Bool} : ∀ (a : AV) (v : Value), noRef a = true → VRel M r a v → VRel M' r' a v
  | .int _ _, _, _, H | .bool _, _, _, H | .str _, _, _, H | .exact _, _, _, H | .nils, _, _, H | .dead, _, _, H => H
  | .agg cs, _, hn, ⟨a, e, H⟩ => ⟨a, e, VRels.sees hs cs a (by simpa [noRef] using hn) H⟩
  | .tup cs, _, hn, ⟨a, e, H⟩ => ⟨a, e, VRels.sees hs cs a (by simpa [noRef] using hn) H⟩
  | .fn _ fs cs, _, hn, ⟨a, b, e, H, K⟩ => by
      simp only [noRef, Bool.and_eq_true] at hn
      exact ⟨a, b, e, VRels.sees hs fs a hn.1 H, VRels.sees hs cs b hn.2 K⟩
  | .ptr _ _, _, hn, _ => by simp [noRef] at hn
  | .sl _ _ _ _, _, hn, _ => by simp [noRef] at hn
  | .ro n cs, v, _, ⟨base, cap, e, hn, H⟩ => ⟨base, cap, e, hn, H.imp id fun ⟨b, off, C, el, fz, hb, hh, hne, hp⟩ =>
      ⟨b, off, C, el, fz, hb, by rw [hs.w]; exact hh, hs.free b hne, VPre.sees hs cs _ hp⟩⟩
  | .rp cs, v, _, ⟨b, off, C, el, fz, hb, hh, hne, hp⟩ => ⟨b, off, C, el, fz, hb, by rw [hs.w]; exact hh, hs.free b hne, VPre.sees hs cs _ hp⟩
theorem VRels.sees {M M' : Mem} (hs : M.sees M') {r r' : Bool} : ∀ (cs : List AV) (l : List Value), noRefs cs = true → VRels M r cs l → VRels M' r' cs l
  | [], _, _, H => H
  | c :: cs, _, hn, ⟨v, vs, e, H, K⟩ => by
      simp only [noRefs, Bool.and_eq_true] at hn
      exact ⟨v, vs, e, VRel.sees hs c v hn.1 H, VRels.sees hs cs vs hn.2 K⟩
theorem VPre.sees {M M' : Mem} (hs : M.sees M') : ∀ (cs : List AV) (l : List Value), VPre M cs l → VPre M' cs l
  | [], _, H => H
  | c :: cs, _, ⟨v, vs, e, H, K⟩ => ⟨v, vs, e, VRel.sees' hs c v H, VPre.sees hs cs vs K⟩
/-- the same, where the flag bars references -/
theorem VRel.sees' {M M' : Mem} (hs : M.sees M') : ∀ (a : AV) (v : Value), VRel M false a v → VRel M' false a v
  | .int _ _, _, H | .bool _, _, H | .str _, _, H | .exact _, _, H | .nils, _, H | .dead, _, H => H
  | .agg cs, _, ⟨a, e, H⟩ => ⟨a, e, VRels.sees' hs cs a H⟩
  | .tup cs, _, ⟨a, e, H⟩ => ⟨a, e, VRels.sees' hs cs a H⟩
  | .fn _ fs cs, _, ⟨a, b, e, H, K⟩ => ⟨a, b, e, VRels.sees' hs fs a H, VRels.sees' hs cs b K⟩
  | .ptr _ _, _, ⟨hr, _⟩ => by cases hr
  | .sl _ _ _ _, _, ⟨hr, _⟩ => by cases hr
  | .ro n cs, v, ⟨base, cap, e, hn, H⟩ => ⟨base, cap, e, hn, H.imp id fun ⟨b, off, C, el, fz, hb, hh, hne, hp⟩ =>
      ⟨b, off, C, el, fz, hb, by rw [hs.w]; exact hh, hs.free b hne, VPre.sees hs cs _ hp⟩⟩
  | .rp cs, v, ⟨b, off, C, el, fz, hb, hh, hne, hp⟩ => ⟨b, off, C, el, fz, hb, by rw [hs.w]; exact hh, hs.free b hne, VPre.sees hs cs _ hp⟩
theorem VRels.sees' {M M' : Mem} (hs : M.sees M') : ∀ (cs : List AV) (l : List Value), VRels M false cs l → VRels M' false cs l
  | [], _, H => H
  | c :: cs, _, ⟨v, vs, e, H, K⟩ => ⟨v, vs, e, VRel.sees' hs c v H, VRels.sees' hs cs vs K⟩
end

mutual
theorem VRel.flat {M M' : Mem} {r r' : Bool} : ∀ (a : AV) (v : Value), flat a = true → VRel M r a v → VRel M' r' a v
  | .int _ _, _, _, H | .bool _, _, _, H | .str _, _, _, H | .exact _, _, _, H | .nils, _, _, H | .dead, _, _, H => H
  | .agg cs, _, hn, ⟨a, e, H⟩ => ⟨a, e, VRels.flat cs a (by simpa [Am.flat] using hn) H⟩
  | .tup cs, _, hn, ⟨a, e, H⟩ => ⟨a, e, VRels.flat cs a (by simpa [Am.flat] using hn) H⟩
  | .fn _ fs cs, _, hn, ⟨a, b, e, H, K⟩ => by
      simp only [Am.flat, Bool.and_eq_true] at hn
      exact ⟨a, b, e, VRels.flat fs a hn.1 H, VRels.flat cs b hn.2 K⟩
  | .ptr _ _, _, hn, _ => by simp [Am.flat] at hn
  | .sl _ _ _ _, _, hn, _ => by simp [Am.flat] at hn
  | .ro _ _, _, hn, _ => by simp [Am.flat] at hn
  | .rp _, _, hn, _ => by simp [Am.flat] at hn
theorem VRels.flat {M M' : Mem} {r r' : Bool} : ∀ (cs : List AV) (l : List Value), flats cs = true → VRels M r cs l → VRels M' r' cs l
  | [], _, _, H => H
  | c :: cs, _, hn, ⟨v, vs, e, H, K⟩ => by
      simp only [Am.flats, Bool.and_eq_true] at hn
      exact ⟨v, vs, e, VRel.flat c v hn.1 H, VRels.flat cs vs hn.2 K⟩
end

/-- The world of a callee: no block is its own yet. -/
def Mem.callee (O : Nat → Prop) (w : World) : Mem := ⟨fun j => j, fun _ => False, 0, O, w⟩

def Callable (P : Program) (f : FuncId) : Prop := ∃ fn, P.funcs[f]? = some fn ∧ fn.name ≠ "runtime.NumGoroutine" ∧ fn.body.isNone = false
/-- A CONTRACT: called at what 'args' say, function f returns what 'r' says; what was there stays. -/
def ASpec (P : Program) (f : FuncId) (args : List AV) (r : AV) : Prop := Callable P f ∧
  ∀ (O : Nat → Prop) (w : World) (vs : List Value), (∀ b, O b → b < w.heap.size) → VRels (Mem.callee O w) false args vs →
    Calls P f ⟨vs⟩ w fun e w' => ∃ v, e = .returned v ∧ Ext w w' ∧ VRel (Mem.callee O w') false r v

/-- The record of a loop that ranges over a function; what is known of its temporaries. -/
structure LoopI where
  l : Nat
  lr : Loop
  tm : Nat → AV
def LpAt : Option LoopI → Mem → Prop
  | none, _ => True
  | some L, M => M.w.heap[L.l]? = some (.loop L.lr) ∧ ∀ t, VRel M true (L.tm t) (L.lr.tmps.getD t undef)
def Ctx.okL (X : Ctx) : Option LoopI → Prop
  | none => True
  | some L => X.w0.heap[L.l]? = some (.loop L.lr) ∧ ¬ X.S L.l ∧ (∀ t, VRel X.M0 true (L.tm t) (L.lr.tmps.getD t undef)) ∧ X.M0.n ≤ X.k ∧ X.dl = []

/-- A CONTRACT of a function that may write the caller's blocks: at the heap h it returns r and leaves h', of which R says something. -/
def PSpecL (P : Program) (lp : Option LoopI) (f : FuncId) (args : List AV) (h : HP) (R : AV → HP → Prop) : Prop := Callable P f ∧
  ∀ (X : Ctx) (M : Mem) (vs : List Value), LpAt lp M → HRel X h M → VRels M true args vs →
    Calls P f ⟨vs⟩ M.w fun e w' => ∃ v M' r h', e = .returned v ∧ M'.w = w' ∧ M'.O = M.O ∧ M.le M' ∧ R r h' ∧ HRel X h' M' ∧ VRel M' true r v
def PSpec (P : Program) (f : FuncId) (args : List AV) (h : HP) (R : AV → HP → Prop) : Prop := PSpecL P none f args h R
/-- A call of yield: one round of the loop; it goes on. -/
def YSpec (P : Program) (L : LoopI) (args : List AV) (h : HP) (R : HP → Prop) : Prop :=
  ∀ (X : Ctx) (M : Mem) (vs : List Value), X.okL (some L) → HRel X h M → Inv X M → VRels M true args vs →
    ∃ f tmps assign body, (Instr.yield L.l ⟨vs⟩).run P M.w = .ok (.round L.l f tmps assign body) M.w ∧
      ∀ (c : Frame) (cs : List Frame), ∃ M' h', R h' ∧ HRel X h' M' ∧ M.le M' ∧ M'.O = M.O ∧ Steps P (lone (Frame.round L.l f tmps assign body .normal) (c :: cs) M.w) (lone (c.finish (.bool true)) cs M'.w)

/-- What a callee sees, at whatever depth. -/
def dv (h : HP) : Nat → AV → AV
  | 0, a => if noRef a = true then a else .dead
  | n + 1, .sl id off es m => match srcA es h (.sl id off es m) with
    | some (m, cs) => .ro m (cs.map (dv h n))
    | none => .dead
  | n + 1, .ptr id off => match h.bk id with
    | some k => .rp ((k.cs.drop off).map (dv h n))
    | none => .dead
  | n + 1, .agg cs => .agg (cs.map (dv h n))
  | n + 1, .tup cs => .tup (cs.map (dv h n))
  | n + 1, .fn f a b => .fn f (a.map (dv h n)) (b.map (dv h n))
  | _ + 1, a => if noRef a = true then a else .dead

/-- A slice of the call's own, shown to a callee. -/
def view1 (h : HP) (a : AV) : AV :=
  match a with
  | .sl id off es n => match srcA es h (.sl id off es n) with
    | some (m, cs) => if noRefs cs = true then .ro m cs else dv h 3 (.sl id off es n)
    | none => .dead
  | a => if noRef a = true then a else dv h 3 a
def view (h : HP) (a : AV) : AV :=
  match a with
  | .agg cs => if noRefs cs = true then .agg cs else .agg (cs.map (view1 h))
  | a => view1 h a

theorem noRefs_pre {M M' : Mem} (hs : M.sees M') {cs : List AV} {l : List Value} (hn : noRefs cs = true) (hp : VPreR M cs l) : VPre M' cs l := by
  induction cs generalizing l with
  | nil => simp [VPre]
  | cons c cs ih =>
    obtain ⟨v, vs, rfl, h1, h2⟩ := hp
    simp only [noRefs, Bool.and_eq_true] at hn
    exact ⟨v, vs, rfl, VRel.sees hs c v hn.1 h1, ih hn.2 h2⟩

theorem map_pre {M M' : Mem} {f : AV → AV} (hf : ∀ a v, VRel M true a v → VRel M' false (f a) v) : ∀ {cs : List AV} {l : List Value}, VPreR M cs l → VPre M' (cs.map f) l
  | [], _, _ => by simp [VPre]
  | _ :: _, _, ⟨v, vs, e, h1, h2⟩ => ⟨v, vs, e, hf _ _ h1, map_pre hf h2⟩
theorem map_rels {M M' : Mem} {f : AV → AV} (hf : ∀ a v, VRel M true a v → VRel M' false (f a) v) : ∀ {cs : List AV} {l : List Value}, VRels M true cs l → VRels M' false (cs.map f) l
  | [], _, h => h
  | _ :: _, _, ⟨v, vs, e, h1, h2⟩ => ⟨v, vs, e, hf _ _ h1, map_rels hf h2⟩
theorem dv_rel (H : HRel X h M) : ∀ (n : Nat) (a : AV) (v : Value), VRel M true a v → VRel (Mem.callee M.O M.w) false (dv h n a) v := by
  have hs : M.sees (Mem.callee M.O M.w) := ⟨rfl, fun b hb => ⟨fun _ hD => hD.elim, hb.2⟩⟩
  intro n
  induction n with
  | zero =>
    intro a v hv
    unfold dv
    split
    · rename_i hno; exact VRel.sees hs _ _ hno hv
    · exact trivial
  | succ n ih =>
    intro a v hv
    have leaf : ∀ a : AV, VRel M true a v → VRel (Mem.callee M.O M.w) false (if noRef a = true then a else .dead) v := by
      intro a hv
      split
      · rename_i hno; exact VRel.sees hs _ _ hno hv
      · exact trivial
    cases a <;> simp only [dv]
    case sl id off es m =>
      split
      · rename_i m' cs hsrc
        simp only [srcA] at hsrc
        split at hsrc
        · rename_i k hk
          split at hsrc
          · rename_i hc
            cases hsrc
            have hD : M.D id := (H.dom id).2 (by simp [hk])
            obtain ⟨_, _, _, h7⟩ := hv
            obtain ⟨cap, e, sz, rfl, hn, _⟩ := h7 hD
            obtain ⟨C, el, hb, hpre, _⟩ := H.bk id k hk
            exact ⟨_, cap, rfl, hn, .inr ⟨M.φ id, off, C, el, (0, 0), rfl, hb, ⟨fun _ hD => hD.elim, (H.own id hD).2⟩, map_pre ih ((hpre.drop off).take _)⟩⟩
          · cases hsrc
        · cases hsrc
      · exact trivial
    case ptr id off =>
      split
      · rename_i k hk
        have hD : M.D id := (H.dom id).2 (by simp [hk])
        obtain ⟨_, _, _, h7⟩ := hv
        obtain rfl := h7 hD
        obtain ⟨C, el, hb, hpre, _⟩ := H.bk id k hk
        exact ⟨M.φ id, off, C, el, (0, 0), rfl, hb, ⟨fun _ hD => hD.elim, (H.own id hD).2⟩, map_pre ih (hpre.drop off)⟩
      · exact trivial
    case agg cs => obtain ⟨l, rfl, hl⟩ := hv; exact ⟨l, rfl, map_rels ih hl⟩
    case tup cs => obtain ⟨l, rfl, hl⟩ := hv; exact ⟨l, rfl, map_rels ih hl⟩
    case fn f x y => obtain ⟨l, m, rfl, hl, hm⟩ := hv; exact ⟨l, m, rfl, map_rels ih hl, map_rels ih hm⟩
    all_goals exact leaf _ hv

/-- Seen by a callee that may look into the call's own blocks. -/
theorem view1_rel (H : HRel X h M) {a : AV} {v : Value} (hv : VRel M true a v) : VRel (Mem.callee M.O M.w) false (view1 h a) v := by
  have hs : M.sees (Mem.callee M.O M.w) := ⟨rfl, fun b hb => ⟨fun _ hD => hD.elim, hb.2⟩⟩
  unfold view1
  split
  · rename_i id off es n
    split
    · rename_i n' cs hsrc
      split
      · rename_i hno
        simp only [srcA] at hsrc
        split at hsrc
        · rename_i k hk
          split at hsrc
          · rename_i hc
            cases hsrc
            have hD : M.D id := (H.dom id).2 (by simp [hk])
            obtain ⟨_, _, _, h7⟩ := hv
            obtain ⟨cap, e, sz, rfl, hn, _⟩ := h7 hD
            obtain ⟨C, el, hb, hpre, _⟩ := H.bk id k hk
            exact ⟨_, cap, rfl, hn, .inr ⟨M.φ id, off, C, el, (0, 0), rfl, hb, ⟨fun _ hD => hD.elim, (H.own id hD).2⟩, noRefs_pre hs hno ((hpre.drop off).take _)⟩⟩
          · cases hsrc
        · cases hsrc
      · exact dv_rel H 3 _ _ hv
    · exact trivial
  · split
    · rename_i hno
      exact VRel.sees hs _ _ hno hv
    · exact dv_rel H 3 _ _ hv
theorem view1s_rel (H : HRel X h M) : ∀ {cs : List AV} {l : List Value}, VRels M true cs l → VRels (Mem.callee M.O M.w) false (cs.map (view1 h)) l
  | [], _, hv => hv
  | _ :: _, _, ⟨v, vs, e, h1, h2⟩ => ⟨v, vs, e, view1_rel H h1, view1s_rel H h2⟩
theorem view_rel (H : HRel X h M) {a : AV} {v : Value} (hv : VRel M true a v) : VRel (Mem.callee M.O M.w) false (view h a) v := by
  have hs : M.sees (Mem.callee M.O M.w) := ⟨rfl, fun b hb => ⟨fun _ hD => hD.elim, hb.2⟩⟩
  unfold view
  split
  · obtain ⟨l, rfl, hl⟩ := hv
    split
    · rename_i hno
      exact ⟨l, rfl, VRels.sees hs _ _ hno hl⟩
    · exact ⟨l, rfl, view1s_rel H hl⟩
  · exact view1_rel H hv
theorem views_rel (H : HRel X h M) : ∀ {cs : List AV} {l : List Value}, VRels M true cs l → VRels (Mem.callee M.O M.w) false (cs.map (view h)) l
  | [], _, hv => hv
  | _ :: _, _, ⟨v, vs, e, h1, h2⟩ => ⟨v, vs, e, view_rel H h1, views_rel H h2⟩

/-- A call's answer r at the arguments args, in the caller's words. -/
def CallOk (P : Program) (g : FuncId) (args : List AV) (h : HP) (r : AV) : Prop :=
  (noRefs args = true ∧ ASpec P g args r ∧ noRef r = true) ∨ (ASpec P g (args.map (view h)) r ∧ flat r = true)

theorem callOk_sound (H : HRel X h M) {g : FuncId} {args : List AV} {vs : List Value} {r : AV} (hc : CallOk P g args h r) (hv : VRels M true args vs) :
    Calls P g ⟨vs⟩ M.w fun e w' => ∃ v, e = .returned v ∧ Ext M.w w' ∧ VRel { M with w := w' } true r v := by
  have hlt : ∀ b, M.O b → b < M.w.heap.size := fun b hb => Nat.lt_of_lt_of_le (H.old b hb) H.kept.size
  rcases hc with ⟨hn, hS, hnr⟩ | ⟨hS, hf⟩
  · have hs : M.sees (Mem.callee (fun b => M.O b ∨ ∃ id, M.D id ∧ M.φ id = b) M.w) := ⟨rfl, fun b hb => ⟨fun _ hD => hD.elim, fun ho => by
      rcases ho with ho | ⟨id, hD, he⟩
      · exact hb.2 ho
      · exact hb.1 id hD he⟩⟩
    refine (hS.2 _ M.w vs (fun b hb => ?_) (VRels.sees hs _ _ hn hv)).mono ?_
    · rcases hb with hb | ⟨id, hD, rfl⟩
      · exact hlt b hb
      · exact H.φ_lt hD
    · rintro e w' ⟨v, rfl, hx, hr⟩
      have hs2 : (Mem.callee (fun b => M.O b ∨ ∃ id, M.D id ∧ M.φ id = b) w').sees { M with w := w' } := ⟨rfl, fun b hb => ⟨fun id hD he => hb.2 (.inr ⟨id, hD, he⟩), fun ho => hb.2 (.inl ho)⟩⟩
      exact ⟨v, rfl, hx, VRel.sees hs2 _ _ hnr hr⟩
  · refine (hS.2 _ M.w vs hlt (views_rel H hv)).mono ?_
    rintro e w' ⟨v, rfl, hx, hr⟩
    exact ⟨v, rfl, hx, VRel.flat _ _ hf hr⟩

/-! ### One operation of a region -/
def AS.put (σ : AS) (dst : Option Tmp) (v : AV) : AS :=
  match dst with
  | some d => { σ with tm := upd σ.tm d v }
  | none => σ

/-- Is the operation carried out? -/
def guardA (ops : List Oper) (o : Oper) (tm : Nat → AV) : Option Bool :=
  match o.guard with
  | none => some true
  | some (j, want) => match (ops[j]?).bind (·.dst) with
    | some t => match tm t with
      | .bool b => some (b == want)
      | .tup [] => some false
      | _ => none
    | none => none

def AExec (P : Program) (o : Oper) (σ σ' : AS) : Prop :=
  match o.op with
  | .call { callee := .value f, args, .. } => ∃ g first caps r fn, P.funcs[g]? = some fn ∧ fn.name ≠ "runtime.NumGoroutine" ∧ fn.body.isNone = false ∧ σ.ev f = .fn (.func g) first caps ∧
      CallOk P g (first ++ args.toList.map σ.ev ++ caps) σ.h r ∧ σ' = σ.put o.dst r
  | op => ∃ v h', exec P op σ.ev σ.h = some (v, h') ∧ σ' = ({ σ with h := h' } : AS).put o.dst v

def AStep (P : Program) (ops : List Oper) (i : Nat) (σ σ' : AS) : Prop :=
  match ops[i]? with
  | none => σ' = σ
  | some o => match guardA ops o σ.tm with
    | some true => AExec P o σ σ'
    | some false => σ' = σ.put o.dst (.tup [])
    | none => False

theorem put_rel {N : Nat} {σ : AS} {M M' : Mem} {a : Act} (R : Rel N X σ M a) (hle : M.le M') {h' : HP} (H : HRel X h' M') {dst : Option Tmp} (hd : ∀ d, dst = some d → d < N) {v : AV} {u : Value} (hv : VRel M' true v u) :
    Rel N X (({ σ with h := h' } : AS).put dst v) M' (a.put dst u) := by
  cases dst with
  | none => exact ⟨H, R.size, R.defers, R.okD, fun t => VRel.mono hle _ _ (R.tm t), R.inv.le hle⟩
  | some d =>
    refine ⟨H, by simp [Act.put, R.size], R.defers, R.okD, fun t => ?_, R.inv.le hle⟩
    have hdN := hd d rfl
    by_cases htd : t = d
    · subst htd
      have h1 : (a.put (some t) u).tmps.getD t undef = u := by
        simp [Act.put, Array.getD, R.size, hdN]
      rw [h1]
      show VRel M' true (upd σ.tm t v t) u
      rw [upd_same]; exact hv
    · have h1 : (a.put (some d) u).tmps.getD t undef = a.tmps.getD t undef := by
        simp [Act.put, Array.getElem?_setIfInBounds_ne (Ne.symm htd)]
      rw [h1]
      show VRel M' true (upd σ.tm d v t) _
      rw [upd_other _ _ _ _ htd]
      exact VRel.mono hle _ _ (R.tm t)

theorem wanted_rel {N : Nat} {σ : AS} {a : Act} (R : Rel N X σ M a) {ops : Array Oper} {o : Oper} {b : Bool} (hg : guardA ops.toList o σ.tm = some b) : Region.wanted o (yielded ops a.tmps) = b := by
  unfold guardA at hg
  unfold Region.wanted
  cases hgd : o.guard with
  | none => simp [hgd] at hg; simp [hg]
  | some jw =>
    obtain ⟨j, want⟩ := jw
    simp only [hgd] at hg
    split at hg
    · rename_i t ht
      split at hg
      · rename_i c hc
        cases hg
        have hr := R.tm t
        rw [hc] at hr
        simp only [VRel] at hr
        have hlt : t < a.tmps.size := by
          rcases Nat.lt_or_ge t a.tmps.size with h | h
          · exact h
          · simp [Array.getD, Nat.not_lt.2 h, undef] at hr
        have h2 : a.tmps[t]? = some (.bool c) := by
          rw [Array.getElem?_eq_getElem hlt]
          simp [Array.getD, hlt] at hr
          rw [hr]
        have h3 : (ops[j]?).bind (·.dst) = some t := by simpa using ht
        simp only [yielded, h3, Option.bind_some, h2]
        cases c <;> cases want <;> rfl
      · rename_i hc
        cases hg
        have hr := R.tm t
        rw [hc] at hr
        simp only [VRel, VRels] at hr
        obtain ⟨_, hr, rfl⟩ := hr
        have h3 : (ops[j]?).bind (·.dst) = some t := by simpa using ht
        simp only [yielded, h3, Option.bind_some]
        cases h2 : a.tmps[t]? with
        | none => rfl
        | some v =>
          have hv : v = Value.tuple ⟨[]⟩ := by
            rw [← hr]
            simp [Array.getD_eq_getD_getElem?, h2]
          subst hv
          rfl
      · cases hg
    · cases hg

theorem astep_sound {N : Nat} {σ σ' : AS} {a : Act} (R : Rel N X σ M a) {ops : Array Oper} {i : Nat} (hs : AStep P ops.toList i σ σ') (hd : ∀ o d, ops[i]? = some o → o.dst = some d → d < N)
    {Q : Exit → Act → World → Prop} {K : Act → World → Prop} (hK : ∀ M' a', Rel N X σ' M' a' → M'.O = M.O → K a' M'.w) : wpOp P ops Q i K a M.w := by
  unfold AStep at hs
  unfold wpOp
  cases ho : ops[i]? with
  | none =>
    have : ops.toList[i]? = none := by simpa using ho
    simp only [this] at hs
    subst hs
    exact hK M a R rfl
  | some o =>
    have : ops.toList[i]? = some o := by simpa using ho
    simp only [this] at hs
    simp only
    split at hs
    · rename_i hg
      rw [wanted_rel R hg]
      simp only [if_true]
      left
      unfold AExec at hs
      split at hs
      · rename_i f args ts hop
        obtain ⟨g, first, caps, r, fn, hfn, hnm, hbd, hf, hc, rfl⟩ := hs
        have hfr := ev_rel R f
        rw [hf] at hfr
        obtain ⟨lf, lc, hfv, h1, h2⟩ := hfr
        have hargs : VRels M true (args.toList.map σ.ev) (args.toList.map a.eval) := by
          generalize args.toList = l
          induction l with
          | nil => rfl
          | cons x l ih => exact ⟨_, _, rfl, ev_rel R x, ih⟩
        have hcall := callOk_sound R.heap hc (VRels.append (VRels.append h1 hargs) h2)
        have hex : (execOp a.eval o).run P M.w = .ok (.enter g ⟨lf ++ args.toList.map a.eval ++ lc⟩) M.w := by
          have e1 : (⟨lf⟩ ++ Array.map a.eval args ++ ⟨lc⟩ : Array Value) = ⟨lf ++ args.toList.map a.eval ++ lc⟩ := by
            apply Array.ext'; simp
          simp only [execOp, hop, Sem.run_bind, resolve, hfv, Deferred.ofValue, Sem.run_pure, Result.andThen_ok, invoke, callFunc, run_program, hfn, Sem.run_ite, hbd]
          simp [hnm, e1]
        unfold Oper.wp
        rw [hex]
        unfold Oper.upon
        refine hcall.mono ?_
        rintro e w' ⟨v, rfl, hx, hr⟩
        have HE := R.heap.ext hx
        exact hK { M with w := w' } _ (put_rel R HE.1 HE.2 (fun d hdd => hd o d ho hdd) hr) rfl
      · rename_i op hne
        obtain ⟨v, h', he, rfl⟩ := hs
        obtain ⟨M', nx, q1, q2, q3, q4, q5⟩ := exec_sound R.heap o (fun x => ev_rel R x) he
        unfold Oper.wp
        rw [q1]
        cases nx <;> simp only [NextRel] at q5
        · exact hK M' _ (put_rel R q2 q4 (fun d hdd => hd o d ho hdd) q5) q3
        · subst q5
          exact hK M' _ (put_rel R q2 q4 (fun d hdd => hd o d ho hdd) (u := undef) trivial) q3
    · rename_i hg
      rw [wanted_rel R hg]
      subst hs
      simp only [Bool.false_eq_true, if_false]
      exact hK M _ (put_rel R (Mem.le.refl M) R.heap (fun d hdd => hd o d ho hdd) (u := undef) ⟨[], rfl, rfl⟩) rfl
    · exact hs.elim
end Go.Am

/-! 'Am', part 15: a region whose order is drawn comes to what it comes to in the text's order. -/
namespace Go.Am
variable {P : Program} {X : Ctx}

def wr : Op → Bool
  | .alloc _ | .box _ _ | .buildSlice _ _ _ | .store _ _ _ | .makeSlice _ _ _ => true
  | .convert s d _ => s == d
  | .call { callee := .builtin .append, .. } | .call { callee := .builtin .copy, .. } => true
  | _ => false
def rd : Op → Bool
  | .load _ _ | .nilCheck _ | .convert _ _ _ | .slice _ _ _ _ _ | .fieldAddr _ _ _ | .indexAddr _ _ _ | .call _ => true
  | _ => false

theorem convOwn_ne {s d : TypeId} {h : HP} {x : AV} {x' : Operand} (hw : wr (.convert s d x') = false) : convOwn P s d h x = none := by
  simp only [wr, beq_eq_false_iff_ne, ne_eq] at hw
  unfold convOwn
  rw [if_neg hw]
theorem exec_wr {op : Op} {ρ : Operand → AV} {h h' : HP} {v : AV} (hw : wr op = false) (he : exec P op ρ h = some (v, h')) : h' = h := by
  cases op <;> simp only [wr, Bool.true_eq_false] at hw <;> simp only [exec] at he <;> try (cases he; done)
  case move | assign | makeFunc => cases he; rfl
  case pick => split at he <;> cases he; rfl
  case convert s d x =>
    rw [convOwn_ne (P := P) (x' := x) (by simpa [wr] using hw)] at he
    obtain ⟨i, hi, he⟩ := withTy_spec he
    obtain ⟨i2, hi2, he⟩ := withTy_spec he
    obtain ⟨c, hc, he⟩ := map_some he
    cases he; rfl
  case load | slice | fieldAddr | field | indexAddr | index | build =>
    obtain ⟨i, hi, he⟩ := withTy_spec he
    first
      | (obtain ⟨c, hc, he⟩ := map_some he; cases he; rfl)
      | (obtain ⟨i2, hi2, he⟩ := withTy_spec he; obtain ⟨c, hc, he⟩ := map_some he; cases he; rfl)
  case nilCheck | binOp | unOp | extract =>
    obtain ⟨c, hc, he⟩ := map_some he
    cases he; rfl
  case call c =>
    obtain ⟨callee, args, ts⟩ := c
    cases callee <;> try (simp only at he; cases he; done)
    simp only at he
    unfold bltA at he
    split at he
    · obtain ⟨i, hi, he⟩ := withTy_spec he
      obtain ⟨c, hc, he⟩ := map_some he; cases he; rfl
    · simp at hw
    · simp at hw
    · obtain ⟨c, hc, he⟩ := map_some he; cases he; rfl
    · obtain ⟨c, hc, he⟩ := map_some he; cases he; rfl
    · cases he

theorem exec_pure {op : Op} {ρ : Operand → AV} {h h' : HP} {v : AV} (hw : wr op = false) (hr : rd op = false) (he : exec P op ρ h = some (v, h')) (k : HP) : exec P op ρ k = some (v, k) := by
  cases op <;> simp only [wr, rd, Bool.true_eq_false] at hw hr <;> simp only [exec] at he ⊢ <;> try (cases he; done)
  case move | assign | makeFunc => cases he; rfl
  case pick => split at he <;> cases he; rfl
  case field | index | build =>
    obtain ⟨i, hi, he⟩ := withTy_spec he
    obtain ⟨c, hc, he⟩ := map_some he
    cases he
    simp [withTy, hi, hc]
  case binOp | unOp | extract =>
    obtain ⟨c, hc, he⟩ := map_some he
    cases he
    simp [hc]

theorem exec_congr {op : Op} {ρ ρ' : Operand → AV} {h : HP} (hx : ∀ x ∈ op.operands, ρ x = ρ' x) : exec P op ρ h = exec P op ρ' h := by
  have pairs : ∀ ps : Array (Nat × Operand), (∀ x ∈ (ps.toList.map (·.2)).toArray, ρ x = ρ' x) → evParts ρ ps = evParts ρ' ps := fun ps hp =>
    List.map_congr_left fun p hm => by rw [hp p.2 (by simp only [List.mem_toArray]; exact List.mem_map.2 ⟨p, hm, rfl⟩)]
  cases op <;> simp only [Op.operands] at hx <;> simp only [exec]
  case build t ps => rw [pairs ps hx]
  case buildSlice t n ps => rw [pairs ps hx]
  case makeFunc fn a b =>
    rw [List.map_congr_left (l := a.toList) fun x h => hx x (by simp only [Array.mem_append]; exact .inl (Array.mem_toList_iff.1 h)),
      List.map_congr_left (l := b.toList) fun x h => hx x (by simp only [Array.mem_append]; exact .inr (Array.mem_toList_iff.1 h))]
  case call c =>
    obtain ⟨callee, args, ts⟩ := c
    cases callee <;> simp only
    rw [List.map_congr_left (l := args.toList) fun x h => hx x (by simp only [Call.operands, Array.mem_append]; exact .inr (Array.mem_toList_iff.1 h))]
  case slice t x lo hi mx => cases lo <;> cases hi <;> cases mx <;> simp_all
  all_goals (first | rfl | (simp_all; done))

/-- What an operation leaves at a state: its slot's value, the blocks. -/
def AEff (P : Program) (ops : List Oper) (o : Oper) (tm : Nat → AV) (h : HP) (v : AV) (h' : HP) : Prop :=
  match guardA ops o tm with
  | some true => match o.op with
    | .call { callee := .value f, args, .. } => (∃ g first caps fn, P.funcs[g]? = some fn ∧ fn.name ≠ "runtime.NumGoroutine" ∧ fn.body.isNone = false ∧ (AS.mk tm h).ev f = .fn (.func g) first caps ∧
      CallOk P g (first ++ args.toList.map (AS.mk tm h).ev ++ caps) h v) ∧ h' = h
    | op => exec P op (AS.mk tm h).ev h = some (v, h')
  | some false => v = .tup [] ∧ h' = h
  | none => False

theorem astep_iff {ops : List Oper} {i : Nat} {o : Oper} (ho : ops[i]? = some o) (σ σ' : AS) : AStep P ops i σ σ' ↔ ∃ v h', AEff P ops o σ.tm σ.h v h' ∧ σ' = (AS.mk σ.tm h').put o.dst v := by
  unfold AStep AEff
  rw [ho]
  simp only
  cases guardA ops o σ.tm with
  | none => simp
  | some b =>
    cases b
    · simp only
      constructor
      · rintro rfl; exact ⟨_, _, ⟨rfl, rfl⟩, rfl⟩
      · rintro ⟨v, h', ⟨rfl, rfl⟩, rfl⟩; rfl
    · simp only
      unfold AExec
      obtain ⟨dst, op, ty, pos, aft, gd⟩ := o
      cases op <;> try exact Iff.rfl
      rename_i c
      obtain ⟨callee, args, ts⟩ := c
      cases callee <;> try exact Iff.rfl
      simp only
      constructor
      · rintro ⟨g, first, caps, r, fn, h1, h2, h3, h4, h5, rfl⟩
        exact ⟨r, σ.h, ⟨⟨g, first, caps, fn, h1, h2, h3, h4, h5⟩, rfl⟩, rfl⟩
      · rintro ⟨v, h', ⟨⟨g, first, caps, fn, h1, h2, h3, h4, h5⟩, rfl⟩, rfl⟩
        exact ⟨g, first, caps, v, fn, h1, h2, h3, h4, h5, rfl⟩

theorem ev_congr {tm tm' : Nat → AV} {h h' : HP} (x : Operand) (hx : ∀ t, x = .tmp t → tm t = tm' t) : (AS.mk tm h).ev x = (AS.mk tm' h').ev x := by
  cases x with
  | tmp t => exact hx t rfl
  | const v => rfl
  | func f => rfl
  | global g => rfl

theorem mem_looksAt {ops : Array Oper} {o : Oper} {t : Tmp} (h : .tmp t ∈ o.op.operands) : t ∈ o.looksAt ops :=
  List.mem_append_left _ (List.mem_filterMap.2 ⟨.tmp t, by simpa using h, rfl⟩)

theorem guard_congr {ops : Array Oper} {o : Oper} {tm tm' : Nat → AV} (h : ∀ t ∈ o.looksAt ops, tm t = tm' t) : guardA ops.toList o tm = guardA ops.toList o tm' := by
  unfold guardA
  cases hg : o.guard with
  | none => rfl
  | some jw =>
    obtain ⟨j, w⟩ := jw
    simp only
    cases ht : (ops.toList[j]?).bind (·.dst) with
    | none => rfl
    | some t =>
      have : t ∈ o.looksAt ops := by
        refine List.mem_append_right _ ?_
        rw [hg]
        have h2 : (ops[j]?).bind (·.dst) = some t := by simpa using ht
        simp [h2]
      simp only [h t this]

theorem aeff_congr {ops : Array Oper} {o : Oper} {tm tm' : Nat → AV} {h h' : HP} {v : AV} (hl : ∀ t ∈ o.looksAt ops, tm t = tm' t) (he : AEff P ops.toList o tm h v h') : AEff P ops.toList o tm' h v h' := by
  unfold AEff at he ⊢
  rw [← guard_congr hl]
  split at he
  · rename_i hg
    split at he
    · rename_i f args ts hop
      obtain ⟨⟨g, first, caps, fn, h1, h2, h3, h4, h5⟩, rfl⟩ := he
      have hev : ∀ x ∈ o.op.operands, (AS.mk tm h').ev x = (AS.mk tm' h').ev x := fun x hx => ev_congr x fun t ht => hl t (mem_looksAt (ht ▸ hx))
      rw [hop] at hev
      refine ⟨⟨g, first, caps, fn, h1, h2, h3, ?_, ?_⟩, rfl⟩
      · rw [← hev f (by simp [Op.operands, Call.operands])]; exact h4
      · rw [← List.map_congr_left (l := args.toList) fun x hx => hev x (by simp only [Op.operands, Call.operands, Array.mem_append]; exact .inr (Array.mem_toList_iff.1 hx))]; exact h5
    · rename_i op hne
      rw [← exec_congr fun x hx => ev_congr x fun t ht => hl t (mem_looksAt (ht ▸ hx))]
      exact he
  · exact he
  · exact he.elim

theorem aeff_wr {ops : List Oper} {o : Oper} {tm : Nat → AV} {h h' : HP} {v : AV} (hw : wr o.op = false) (he : AEff P ops o tm h v h') : h' = h := by
  unfold AEff at he
  split at he
  · split at he
    · exact he.2
    · exact exec_wr hw he
  · exact he.2
  · exact he.elim

theorem aeff_pure {ops : List Oper} {o : Oper} {tm : Nat → AV} {h h' : HP} {v : AV} (hw : wr o.op = false) (hr : rd o.op = false) (he : AEff P ops o tm h v h') (k : HP) : AEff P ops o tm k v k := by
  unfold AEff at he ⊢
  split at he
  · split at he
    · rename_i f args ts hop
      rw [hop] at hr
      simp [rd] at hr
    · rw [exec_congr (ρ' := (AS.mk tm h).ev) fun x _ => ev_congr x fun t _ => rfl]
      exact exec_pure hw hr he k
  · exact ⟨he.1, rfl⟩
  · exact he.elim

/-- Two operations that do not touch one another. -/
def indep (ops : Array Oper) (x y : Oper) : Bool :=
  x.apart ops y && !(wr x.op && (rd y.op || wr y.op)) && !(wr y.op && (rd x.op || wr x.op))

theorem astep_comm {ops : Array Oper} {i j : Nat} {oi oj : Oper} (hi : ops[i]? = some oi) (hj : ops[j]? = some oj) (hind : indep ops oi oj = true) {σ σ1 σ2 : AS}
    (h1 : AStep P ops.toList i σ σ1) (h2 : AStep P ops.toList j σ1 σ2) : ∃ σ1', AStep P ops.toList j σ σ1' ∧ AStep P ops.toList i σ1' σ2 := by
  have hi' : ops.toList[i]? = some oi := by simpa using hi
  have hj' : ops.toList[j]? = some oj := by simpa using hj
  obtain ⟨v1, k1, e1, rfl⟩ := (astep_iff hi' _ _).1 h1
  obtain ⟨v2, k2, e2, rfl⟩ := (astep_iff hj' _ _).1 h2
  simp only [indep, Bool.and_eq_true, Bool.not_eq_true', Bool.and_eq_false_iff, Bool.or_eq_false_iff] at hind
  obtain ⟨⟨hap, hw1⟩, hw2⟩ := hind
  obtain ⟨a1, a2, a3⟩ := Oper.apart_spec hap
  have tm_put : ∀ (τ : AS) (d : Option Tmp) (v : AV) (t : Nat), (∀ x, d = some x → t ≠ x) → (τ.put d v).tm t = τ.tm t := by
    intro τ d v t h
    cases d with
    | none => rfl
    | some x => exact upd_other _ _ _ _ (h x rfl)
  have h_put : ∀ (τ : AS) (d : Option Tmp) (v : AV), (τ.put d v).h = τ.h := by intro τ d v; cases d <;> rfl
  rw [h_put] at e2
  simp only at e2
  have e2' : AEff P ops.toList oj σ.tm k1 v2 k2 := aeff_congr (fun t ht => tm_put (AS.mk σ.tm k1) oi.dst v1 t fun x hx hxt => a1 x hx (hxt ▸ ht)) e2
  have put_put : ∀ (k h : HP), (AS.mk ((AS.mk σ.tm k).put oi.dst v1).tm k2).put oj.dst v2 = (AS.mk ((AS.mk σ.tm h).put oj.dst v2).tm k2).put oi.dst v1 := by
    intro k h
    cases hdi : oi.dst with
    | none => cases oj.dst <;> rfl
    | some x =>
      cases hdj : oj.dst with
      | none => rfl
      | some y => exact congrArg (fun f => AS.mk f k2) (upd_comm _ _ _ _ _ (fun he => a2 x hdi (he ▸ hdj)))
  by_cases hwi : wr oi.op = true
  · -- the first writes: the second one only reckons
    have hr2 : rd oj.op = false ∧ wr oj.op = false := hw1.resolve_left (by simp [hwi])
    have hk : k2 = k1 := aeff_wr hr2.2 e2'
    subst hk
    refine ⟨(AS.mk σ.tm σ.h).put oj.dst v2, (astep_iff hj' _ _).2 ⟨v2, σ.h, aeff_pure hr2.2 hr2.1 e2' σ.h, rfl⟩, (astep_iff hi' _ _).2 ⟨v1, k2, ?_, ?_⟩⟩
    · rw [h_put]
      exact aeff_congr (tm := σ.tm) (fun t ht => (tm_put (AS.mk σ.tm σ.h) oj.dst v2 t fun x hx hxt => a3 x hx (hxt ▸ ht)).symm) e1
    · exact put_put _ _
  · have hwi : wr oi.op = false := by simpa using hwi
    have hk1 : k1 = σ.h := aeff_wr hwi e1
    subst hk1
    refine ⟨(AS.mk σ.tm k2).put oj.dst v2, (astep_iff hj' _ _).2 ⟨v2, k2, e2', rfl⟩, (astep_iff hi' _ _).2 ⟨v1, k2, ?_, ?_⟩⟩
    · rw [h_put]
      refine aeff_congr (tm := σ.tm) (fun t ht => (tm_put (AS.mk σ.tm k2) oj.dst v2 t fun x hx hxt => a3 x hx (hxt ▸ ht)).symm) ?_
      by_cases hwj : wr oj.op = true
      · have hri : rd oi.op = false ∧ wr oi.op = false := hw2.resolve_left (by simp [hwj])
        exact aeff_pure hri.2 hri.1 e1 k2
      · have hk2 : k2 = σ.h := aeff_wr (by simpa using hwj) e2'
        subst hk2
        exact e1
    · exact put_put _ _
end Go.Am

/-! 'Am', part 15b: which operations may change their places: a new block is no matter to who reads; a store is none to who only asks where a cell lies. -/
namespace Go.Am
variable {P : Program} {X : Ctx}

/-- Beyond the counter there is no block. -/
def HP.tidy (h : HP) : Prop := ∀ id, h.nt ≤ id → h.bk id = none
/-- All blocks of h lie in k, too. -/
def HP.le (h k : HP) : Prop := ∀ id b, h.bk id = some b → k.bk id = some b
/-- The same places have blocks. -/
def HP.dm (h k : HP) : Prop := ∀ id, (k.bk id).isSome = (h.bk id).isSome

theorem HP.le.some {h k : HP} (hl : h.le k) {id : Nat} (hs : (h.bk id).isSome = true) : (k.bk id).isSome = true := by
  obtain ⟨b, hb⟩ := Option.isSome_iff_exists.1 hs
  rw [hl id b hb]; rfl
theorem HP.le_add {h : HP} (ht : h.tidy) (b : Blk) : h.le (h.add b) := by
  intro id c hc
  unfold HP.add
  simp only
  rw [upd_other _ _ _ _ (fun he => by rw [ht id (by omega)] at hc; cases hc)]
  exact hc
theorem HP.tidy_add {h : HP} (ht : h.tidy) (b : Blk) : (h.add b).tidy := by
  intro id hid
  simp only [HP.add] at hid ⊢
  rw [upd_other _ _ _ _ (by omega)]
  exact ht id (by omega)
theorem HP.tidy_drop {h : HP} (ht : h.tidy) (i : Nat) : (h.drop i).tidy := by
  intro id hid
  simp only [HP.drop] at hid ⊢
  by_cases he : id = i
  · subst he; rw [upd_same]
  · rw [upd_other _ _ _ _ he]; exact ht id hid
theorem HP.tidy_move {h : HP} (ht : h.tidy) (i : Nat) (b : Blk) : (h.move i b).tidy := by
  intro id hid
  simp only [HP.move] at hid ⊢
  rw [upd_other _ _ _ _ (by omega)]
  by_cases he : id = i
  · subst he; rw [upd_same]
  · rw [upd_other _ _ _ _ he]; exact ht id (by omega)
theorem HP.tidy_upd {h : HP} (ht : h.tidy) {i : Nat} {b c : Blk} (hb : h.bk i = some b) : ({ h with bk := upd h.bk i (some c) } : HP).tidy := by
  intro id hid
  simp only at hid ⊢
  by_cases he : id = i
  · subst he; rw [ht id hid] at hb; cases hb
  · rw [upd_other _ _ _ _ he]; exact ht id hid
theorem HP.dm_upd {h : HP} {i : Nat} {b c : Blk} (hb : h.bk i = some b) : h.dm { h with bk := upd h.bk i (some c) } := by
  intro id
  simp only
  by_cases he : id = i
  · subst he; rw [upd_same, hb]; rfl
  · rw [upd_other _ _ _ _ he]

section
variable {h k : HP} (hl : h.le k)
include hl
theorem loadA_le {i : TyI} {p v : AV} (hv : loadA i h p = some v) : loadA i k p = some v := by
  unfold loadA at hv ⊢
  split at hv
  · rename_i id off
    split at hv
    · rename_i b hb
      rw [hl id b hb]
      exact hv
    · cases hv
  · exact hv
  · cases hv
theorem srcA_le {es : Nat} {a : AV} {r : Nat × List AV} (hv : srcA es h a = some r) : srcA es k a = some r := by
  unfold srcA at hv ⊢
  split at hv
  · exact hv
  · exact hv
  · rename_i id off es' n
    split at hv
    · rename_i b hb
      rw [hl id b hb]
      exact hv
    · cases hv
  · exact hv
  · exact hv
  · cases hv
theorem nilA_le {x v : AV} (hv : nilA h x = some v) : nilA k x = some v := by
  unfold nilA at hv ⊢
  split at hv
  · split at hv
    · rename_i hs
      simp only [hl.some hs, if_true]
      exact hv
    · cases hv
  · exact hv
  · exact hv
  · cases hv
theorem lenA_le {i : TyI} {a : AV} {n : Nat} (hv : lenA i h a = some n) : lenA i k a = some n := by
  unfold lenA at hv ⊢
  split at hv
  · exact hv
  · exact hv
  · exact hv
  · exact hv
  · split at hv
    · rename_i hs
      simp only [hl.some hs, if_true]
      exact hv
    · cases hv
  · cases hv
theorem fieldAddrA_le {i : TyI} {f : Nat} {p v : AV} (hv : fieldAddrA i h f p = some v) : fieldAddrA i k f p = some v := by
  unfold fieldAddrA at hv ⊢
  split at hv
  · split at hv
    · split at hv
      · rename_i hs
        simp only [hs.1, hl.some hs.2, ne_eq, not_false_eq_true, and_self, if_true]
        exact hv
      · cases hv
    · exact hv
    · cases hv
  · cases hv
theorem indexAddrA_le {i : TyI} {x ix v : AV} (hv : indexAddrA i h x ix = some v) : indexAddrA i k x ix = some v := by
  unfold indexAddrA at hv ⊢
  split at hv
  · split at hv
    · rename_i hs
      simp only [hl.some hs, if_true]
      exact hv
    · cases hv
  · exact hv
  · split at hv
    · split at hv
      · rename_i hs
        rw [if_pos ⟨hs.1, hl.some hs.2⟩]
        exact hv
      · cases hv
    · cases hv
  · exact hv
  · cases hv
theorem sliceA_le {i : TyI} {x v : AV} {lo hi mx : Option AV} (hv : sliceA i h x lo hi mx = some v) : sliceA i k x lo hi mx = some v := by
  unfold sliceA at hv ⊢
  split at hv
  · rename_i n e es ea id off h1
    split at hv
    · rename_i b hb
      rw [hl id b hb]
      exact hv
    · cases hv
  · split at hv
    · rename_i hs
      rw [if_pos ⟨hs.1, hl.some hs.2.1, hs.2.2⟩]
      exact hv
    · cases hv
  · exact hv
  · exact hv
  · exact hv
  · cases hv
theorem convA_le {i i2 : TyI} {x v : AV} (hv : convA P i i2 h x = some v) : convA P i i2 k x = some v := by
  unfold convA at hv ⊢
  split at hv
  · exact hv
  · exact hv
  · split at hv
    · rename_i e es ea eb h1 h2
      split at hv
      · rename_i hc
        simp only [hc, and_self, if_true]
        cases hs : srcA 1 h x with
        | none => simp [hs] at hv
        | some r =>
          rw [hs] at hv
          rw [srcA_le hl hs]
          exact hv
      · cases hv
    · cases hv
end

theorem exec_le {op : Op} {ρ : Operand → AV} {h h' k : HP} {v : AV} (hl : h.le k) (hw : wr op = false) (he : exec P op ρ h = some (v, h')) : exec P op ρ k = some (v, k) := by
  cases op <;> simp only [wr, Bool.true_eq_false] at hw <;> simp only [exec] at he ⊢ <;> try (cases he; done)
  case move | assign | makeFunc => cases he; rfl
  case pick => split at he <;> cases he; rfl
  case field | index | build =>
    obtain ⟨i, hi, he⟩ := withTy_spec he
    obtain ⟨c, hc, he⟩ := map_some he
    cases he
    simp [withTy, hi, hc]
  case binOp | unOp | extract =>
    obtain ⟨c, hc, he⟩ := map_some he
    cases he
    simp [hc]
  case load =>
    obtain ⟨i, hi, he⟩ := withTy_spec he
    obtain ⟨c, hc, he⟩ := map_some he
    cases he
    simp [withTy, hi, loadA_le hl hc]
  case slice =>
    obtain ⟨i, hi, he⟩ := withTy_spec he
    obtain ⟨c, hc, he⟩ := map_some he
    cases he
    simp [withTy, hi, sliceA_le hl hc]
  case fieldAddr =>
    obtain ⟨i, hi, he⟩ := withTy_spec he
    obtain ⟨c, hc, he⟩ := map_some he
    cases he
    simp [withTy, hi, fieldAddrA_le hl hc]
  case indexAddr =>
    obtain ⟨i, hi, he⟩ := withTy_spec he
    obtain ⟨c, hc, he⟩ := map_some he
    cases he
    simp [withTy, hi, indexAddrA_le hl hc]
  case convert s d x =>
    rw [convOwn_ne (P := P) (x' := x) (by simpa [wr] using hw)] at he ⊢
    obtain ⟨i, hi, he⟩ := withTy_spec he
    obtain ⟨i2, hi2, he⟩ := withTy_spec he
    obtain ⟨c, hc, he⟩ := map_some he
    cases he
    simp [withTy, hi, hi2, convA_le hl hc]
  case nilCheck =>
    obtain ⟨c, hc, he⟩ := map_some he
    cases he
    simp [nilA_le hl hc]
  case call c =>
    obtain ⟨callee, args, ts⟩ := c
    cases callee <;> try (simp only at he; cases he; done)
    simp only at he ⊢
    unfold bltA at he ⊢
    split at he
    · obtain ⟨i, hi, he⟩ := withTy_spec he
      obtain ⟨c, hc, he⟩ := map_some he
      cases he
      simp [withTy, hi, lenA_le hl hc]
    · simp at hw
    · simp at hw
    · obtain ⟨c, hc, he⟩ := map_some he; cases he; simp [hc]
    · obtain ⟨c, hc, he⟩ := map_some he; cases he; simp [hc]
    · cases he

/-! ### Calls -/
theorem pre_le {M : Mem} {f g : AV → AV} (hf : ∀ a v, VRel M false (f a) v → VRel M false (g a) v) : ∀ (cs : List AV) (l : List Value), VPre M (cs.map f) l → VPre M (cs.map g) l
  | [], _, _ => by simp [VPre]
  | _ :: cs, _, ⟨v, vs, e, h1, h2⟩ => ⟨v, vs, e, hf _ _ h1, pre_le hf cs _ h2⟩
theorem rels_le {M : Mem} {r : Bool} {f g : AV → AV} (hf : ∀ a v, VRel M r (f a) v → VRel M r (g a) v) : ∀ (cs : List AV) (l : List Value), VRels M r (cs.map f) l → VRels M r (cs.map g) l
  | [], _, h => h
  | _ :: cs, _, ⟨v, vs, e, h1, h2⟩ => ⟨v, vs, e, hf _ _ h1, rels_le hf cs _ h2⟩
theorem dv_le {h k : HP} (hl : h.le k) {M : Mem} : ∀ (n : Nat) (r : Bool) (a : AV) (v : Value), VRel M r (dv k n a) v → VRel M r (dv h n a) v := by
  intro n
  induction n with
  | zero => intro r a v hv; exact hv
  | succ n ih =>
    intro r a v hv
    cases a <;> simp only [dv] at hv ⊢ <;> try exact hv
    case sl id off es m =>
      cases hs : srcA es h (.sl id off es m) with
      | none => exact trivial
      | some q =>
        rw [srcA_le hl hs] at hv
        obtain ⟨base, cap, e, hn, H⟩ := hv
        refine ⟨base, cap, e, hn, H.imp (fun h0 => by simpa using h0) ?_⟩
        rintro ⟨b, off, C, el, fz, q1, q2, q3, q4⟩
        exact ⟨b, off, C, el, fz, q1, q2, q3, pre_le (ih false) _ _ q4⟩
    case ptr id off =>
      cases hk : h.bk id with
      | none => exact trivial
      | some b =>
        rw [hl id b hk] at hv
        obtain ⟨b, off, C, el, fz, q1, q2, q3, q4⟩ := hv
        exact ⟨b, off, C, el, fz, q1, q2, q3, pre_le (ih false) _ _ q4⟩
    case agg cs => obtain ⟨l, e, hr⟩ := hv; exact ⟨l, e, rels_le (ih r) _ _ hr⟩
    case tup cs => obtain ⟨l, e, hr⟩ := hv; exact ⟨l, e, rels_le (ih r) _ _ hr⟩
    case fn f x y => obtain ⟨l, m, e, h1, h2⟩ := hv; exact ⟨l, m, e, rels_le (ih r) _ _ h1, rels_le (ih r) _ _ h2⟩
theorem view1_le {h k : HP} (hl : h.le k) (a : AV) {M : Mem} {r : Bool} {v : Value} (hv : VRel M r (view1 k a) v) : VRel M r (view1 h a) v := by
  unfold view1 at hv ⊢
  split at hv
  · rename_i id off es n
    cases hs : srcA es h (.sl id off es n) with
    | none => exact trivial
    | some q =>
      rw [srcA_le hl hs] at hv
      simp only at hv ⊢
      split at hv
      · rename_i hno; rw [if_pos hno]; exact hv
      · rename_i hno; rw [if_neg hno]; exact dv_le hl 3 r _ _ hv
  · split at hv
    · rename_i hno; rw [if_pos hno]; exact hv
    · rename_i hno; rw [if_neg hno]; exact dv_le hl 3 r _ _ hv
theorem views1_le {h k : HP} (hl : h.le k) {M : Mem} {r : Bool} : ∀ (cs : List AV) (l : List Value), VRels M r (cs.map (view1 k)) l → VRels M r (cs.map (view1 h)) l
  | [], _, hv => hv
  | c :: cs, _, ⟨v, vs, e, h1, h2⟩ => ⟨v, vs, e, view1_le hl c h1, views1_le hl cs vs h2⟩
theorem view_le {h k : HP} (hl : h.le k) (a : AV) {M : Mem} {r : Bool} {v : Value} (hv : VRel M r (view k a) v) : VRel M r (view h a) v := by
  unfold view at hv ⊢
  split at hv
  · rename_i cs
    split at hv
    · rename_i hn
      rw [if_pos hn]; exact hv
    · rename_i hn
      rw [if_neg hn]
      obtain ⟨a, e, hr⟩ := hv
      exact ⟨a, e, views1_le hl cs a hr⟩
  · exact view1_le hl a hv
theorem views_le {h k : HP} (hl : h.le k) {M : Mem} {r : Bool} : ∀ (cs : List AV) (l : List Value), VRels M r (cs.map (view k)) l → VRels M r (cs.map (view h)) l
  | [], _, hv => hv
  | c :: cs, _, ⟨v, vs, e, h1, h2⟩ => ⟨v, vs, e, view_le hl c h1, views_le hl cs vs h2⟩
theorem callOk_le {h k : HP} (hl : h.le k) {g : FuncId} {args : List AV} {r : AV} (hc : CallOk P g args h r) : CallOk P g args k r :=
  hc.imp id fun ⟨hS, hf⟩ => ⟨⟨hS.1, fun O w vs hO hv => hS.2 O w vs hO (views_le hl args vs hv)⟩, hf⟩

theorem aeff_le {ops : List Oper} {o : Oper} {tm : Nat → AV} {h h' k : HP} {v : AV} (hl : h.le k) (hw : wr o.op = false) (he : AEff P ops o tm h v h') : AEff P ops o tm k v k := by
  unfold AEff at he ⊢
  split at he
  · split at he
    · rename_i f args ts hop
      obtain ⟨⟨g, first, caps, fn, h1, h2, h3, h4, h5⟩, rfl⟩ := he
      refine ⟨⟨g, first, caps, fn, h1, h2, h3, ?_, ?_⟩, rfl⟩
      · rw [← h4]; exact ev_congr _ fun _ _ => rfl
      · have e : args.toList.map (AS.mk tm k).ev = args.toList.map (AS.mk tm h').ev := List.map_congr_left fun x _ => ev_congr x fun _ _ => rfl
        rw [e]
        exact callOk_le hl h5
    · rw [exec_congr (ρ' := (AS.mk tm h).ev) fun x _ => ev_congr x fun t _ => rfl]
      exact exec_le hl hw he
  · exact ⟨he.1, rfl⟩
  · exact he.elim

/-! ### What makes a new block; what only asks where a cell lies; what stores -/
def adds : Op → Bool
  | .alloc _ | .box _ _ | .buildSlice _ _ _ | .makeSlice _ _ _ => true
  | _ => false
def asks : Op → Bool
  | .fieldAddr _ _ _ | .indexAddr _ _ _ => true
  | _ => false
def stos : Op → Bool
  | .store _ _ _ => true
  | _ => false

theorem exec_adds {op : Op} {ρ : Operand → AV} {h h' : HP} {v : AV} (ha : adds op = true) (he : exec P op ρ h = some (v, h')) : ∃ b, h' = h.add b := by
  cases op <;> simp only [adds, Bool.false_eq_true] at ha <;> simp only [exec] at he
  case alloc => obtain ⟨i, hi, he⟩ := withTy_spec he; cases he; exact ⟨_, rfl⟩
  case box => obtain ⟨c, hc, he⟩ := map_some he; cases he; exact ⟨_, rfl⟩
  case buildSlice =>
    obtain ⟨i, hi, he⟩ := withTy_spec he
    unfold buildSliceA at he
    split at he
    · split at he
      · split at he
        · obtain ⟨c, hc, he⟩ := map_some he; cases he; exact ⟨_, rfl⟩
        · cases he
      · cases he
    · cases he
  case makeSlice =>
    obtain ⟨i, hi, he⟩ := withTy_spec he
    unfold makeA at he
    split at he
    · split at he
      · split at he
        · cases he; exact ⟨_, rfl⟩
        · cases he
      · cases he
    · cases he
theorem storeA_upd {i : TyI} {h h' : HP} {p v : AV} (hs : storeA i h p v = some h') : ∃ id b c, h.bk id = some b ∧ h' = { h with bk := upd h.bk id (some c) } := by
  unfold storeA at hs
  split at hs
  · split at hs
    · rename_i b hb
      split at hs
      · split at hs
        · cases hs; exact ⟨_, _, _, hb, rfl⟩
        · cases hs
      · split at hs
        · cases hs; exact ⟨_, _, _, hb, rfl⟩
        · cases hs
    · cases hs
  · cases hs
theorem exec_stos {op : Op} {ρ : Operand → AV} {h h' : HP} {v : AV} (ha : stos op = true) (he : exec P op ρ h = some (v, h')) : ∃ id b c, h.bk id = some b ∧ h' = { h with bk := upd h.bk id (some c) } := by
  cases op <;> simp only [stos, Bool.false_eq_true] at ha <;> simp only [exec] at he
  obtain ⟨i, hi, he⟩ := withTy_spec he
  obtain ⟨c, hc, he⟩ := map_some he
  cases he
  exact storeA_upd hc
theorem exec_asks {op : Op} {ρ : Operand → AV} {h h' k : HP} {v : AV} (hd : h.dm k) (ha : asks op = true) (he : exec P op ρ h = some (v, h')) : exec P op ρ k = some (v, k) := by
  cases op <;> simp only [asks, Bool.false_eq_true] at ha <;> simp only [exec] at he ⊢
  case fieldAddr =>
    obtain ⟨i, hi, he⟩ := withTy_spec he
    obtain ⟨c, hc, he⟩ := map_some he
    cases he
    have : fieldAddrA i k = fieldAddrA i h := by
      funext f p
      unfold fieldAddrA
      simp only [hd _]
    simp [withTy, hi, this, hc]
  case indexAddr =>
    obtain ⟨i, hi, he⟩ := withTy_spec he
    obtain ⟨c, hc, he⟩ := map_some he
    cases he
    have : indexAddrA i k = indexAddrA i h := by
      funext f p
      unfold indexAddrA
      simp only [hd _]
    simp [withTy, hi, this, hc]

theorem exec_tidy {op : Op} {ρ : Operand → AV} {h h' : HP} {v : AV} (ht : h.tidy) (he : exec P op ρ h = some (v, h')) : h'.tidy := by
  cases hw : wr op with
  | false => rw [exec_wr hw he]; exact ht
  | true =>
    cases ha : adds op with
    | true =>
      obtain ⟨b, rfl⟩ := exec_adds ha he
      exact HP.tidy_add ht b
    | false =>
      cases hs : stos op with
      | true =>
        obtain ⟨id, b, c, hb, rfl⟩ := exec_stos hs he
        exact HP.tidy_upd ht hb
      | false =>
        cases op <;> simp only [adds, stos, wr, Bool.true_eq_false, Bool.false_eq_true] at ha hs hw
        case convert s d x =>
          simp only [exec] at he
          split at he
          · rename_i r hr
            cases he
            unfold convOwn at hr
            split at hr
            · split at hr
              · split at hr
                · split at hr
                  · cases hr; exact HP.tidy_drop ht _
                  · cases hr
                · cases hr
              · cases hr
            · cases hr
          · obtain ⟨i, hi, he⟩ := withTy_spec he
            obtain ⟨i2, hi2, he⟩ := withTy_spec he
            obtain ⟨c, hc, he⟩ := map_some he
            cases he; exact ht
        rename_i cl
        obtain ⟨callee, args, ts⟩ := cl
        cases callee <;> try (simp at hw; done)
        simp only [exec] at he
        unfold bltA at he
        split at he
        · simp at hw
        · obtain ⟨i, hi, he⟩ := withTy_spec he
          obtain ⟨i2, hi2, he⟩ := withTy_spec he
          unfold appendA at he
          have key : ∀ {e es eb : Nat} {a b : AV}, appendB P e es eb h a b = some (v, h') → h'.tidy := by
            intro e es eb a b hk
            unfold appendB at hk
            split at hk
            · split at hk
              · split at hk
                · split at hk
                  · cases hk; exact ht
                  · split at hk
                    · cases hk; exact HP.tidy_add ht _
                    · cases hk
                · split at hk
                  · split at hk
                    · cases hk; exact HP.tidy_move ht _ _
                    · cases hk
                  · cases hk
                · cases hk
              · cases hk
            · cases hk
          split at he
          · exact key he
          · exact key he
          · cases he
        · obtain ⟨i, hi, he⟩ := withTy_spec he
          unfold copyA at he
          split at he
          · split at he
            · rename_i b m cs hb hsr
              split at he
              · cases he; exact HP.tidy_upd ht hb
              · cases he
            · cases he
          · cases he
        · simp at hw
        · simp at hw
        · cases he

theorem aeff_tidy {ops : List Oper} {o : Oper} {tm : Nat → AV} {h h' : HP} {v : AV} (ht : h.tidy) (he : AEff P ops o tm h v h') : h'.tidy := by
  unfold AEff at he
  split at he
  · split at he
    · rw [he.2]; exact ht
    · exact exec_tidy ht he
  · rw [he.2]; exact ht
  · exact he.elim
theorem put_h (τ : AS) (d : Option Tmp) (v : AV) : (τ.put d v).h = τ.h := by cases d <;> rfl
theorem astep_tidy {ops : List Oper} {i : Nat} {σ σ' : AS} (ht : σ.h.tidy) (hs : AStep P ops i σ σ') : σ'.h.tidy := by
  cases ho : ops[i]? with
  | none => unfold AStep at hs; rw [ho] at hs; simp only at hs; subst hs; exact ht
  | some o =>
    obtain ⟨v, h', he, rfl⟩ := (astep_iff ho _ _).1 hs
    rw [put_h]
    exact aeff_tidy ht he

/-- Two operations, the first one of which may be done behind the second one. -/
def indep2 (ops : Array Oper) (x y : Oper) : Bool := indep ops x y || (x.apart ops y && ((!wr x.op && adds y.op) || (asks x.op && stos y.op)))

theorem astep_comm2 {ops : Array Oper} {i j : Nat} {oi oj : Oper} (hi : ops[i]? = some oi) (hj : ops[j]? = some oj) (hind : indep2 ops oi oj = true) {σ σ1 σ2 : AS} (ht : σ.h.tidy)
    (h1 : AStep P ops.toList i σ σ1) (h2 : AStep P ops.toList j σ1 σ2) : ∃ σ1', AStep P ops.toList j σ σ1' ∧ AStep P ops.toList i σ1' σ2 := by
  unfold indep2 at hind
  rw [Bool.or_eq_true] at hind
  rcases hind with hind | hind
  · exact astep_comm hi hj hind h1 h2
  have hi' : ops.toList[i]? = some oi := by simpa using hi
  have hj' : ops.toList[j]? = some oj := by simpa using hj
  obtain ⟨v1, k1, e1, rfl⟩ := (astep_iff hi' _ _).1 h1
  obtain ⟨v2, k2, e2, rfl⟩ := (astep_iff hj' _ _).1 h2
  simp only [Bool.and_eq_true, Bool.or_eq_true, Bool.not_eq_true'] at hind
  obtain ⟨hap, hcase⟩ := hind
  obtain ⟨a1, a2, a3⟩ := Oper.apart_spec hap
  have tm_put : ∀ (τ : AS) (d : Option Tmp) (v : AV) (t : Nat), (∀ x, d = some x → t ≠ x) → (τ.put d v).tm t = τ.tm t := by
    intro τ d v t h
    cases d with
    | none => rfl
    | some x => exact upd_other _ _ _ _ (h x rfl)
  rw [put_h] at e2
  simp only at e2
  have e2' : AEff P ops.toList oj σ.tm k1 v2 k2 := aeff_congr (fun t ht => tm_put (AS.mk σ.tm k1) oi.dst v1 t fun x hx hxt => a1 x hx (hxt ▸ ht)) e2
  have put_put : ∀ (k h : HP), (AS.mk ((AS.mk σ.tm k).put oi.dst v1).tm k2).put oj.dst v2 = (AS.mk ((AS.mk σ.tm h).put oj.dst v2).tm k2).put oi.dst v1 := by
    intro k h
    cases hdi : oi.dst with
    | none => cases oj.dst <;> rfl
    | some x =>
      cases hdj : oj.dst with
      | none => rfl
      | some y => exact congrArg (fun f => AS.mk f k2) (upd_comm _ _ _ _ _ (fun he => a2 x hdi (he ▸ hdj)))
  have hwi : wr oi.op = false := by
    rcases hcase with h | h
    · exact h.1
    · have := h.1
      cases hop : oi.op <;> simp [hop, asks] at this <;> rfl
  have hk1 : k1 = σ.h := aeff_wr hwi e1
  subst hk1
  have e1' : AEff P ops.toList oi σ.tm k2 v1 k2 := by
    rcases hcase with ⟨_, hadd⟩ | ⟨hask, hsto⟩
    · refine aeff_le ?_ hwi e1
      unfold AEff at e2'
      split at e2'
      · split at e2'
        · rename_i f args ts hop
          rw [hop] at hadd
          simp [adds] at hadd
        · obtain ⟨b, rfl⟩ := exec_adds hadd e2'
          exact HP.le_add ht b
      · rw [e2'.2]; exact fun _ _ h => h
      · exact e2'.elim
    · have hdm : σ.h.dm k2 := by
        unfold AEff at e2'
        split at e2'
        · split at e2'
          · rename_i f args ts hop
            rw [hop] at hsto
            simp [stos] at hsto
          · obtain ⟨id, b, c, hb, rfl⟩ := exec_stos hsto e2'
            exact HP.dm_upd hb
        · rw [e2'.2]; exact fun _ => rfl
        · exact e2'.elim
      unfold AEff at e1 ⊢
      split at e1
      · split at e1
        · rename_i f args ts hop
          rw [hop] at hask
          simp [asks] at hask
        · rw [exec_congr (ρ' := (AS.mk σ.tm σ.h).ev) fun x _ => ev_congr x fun t _ => rfl]
          exact exec_asks hdm hask e1
      · exact ⟨e1.1, rfl⟩
      · exact e1.elim
  refine ⟨(AS.mk σ.tm k2).put oj.dst v2, (astep_iff hj' _ _).2 ⟨v2, k2, e2', rfl⟩, (astep_iff hi' _ _).2 ⟨v1, k2, ?_, ?_⟩⟩
  · rw [put_h]
    exact aeff_congr (tm := σ.tm) (fun t ht => (tm_put (AS.mk σ.tm k2) oj.dst v2 t fun x hx hxt => a3 x hx (hxt ▸ ht)).symm) e1'
  · exact put_put _ _

/-! ### A store behind a load of another block -/
def ptrNe (x y : AV) : Prop :=
  match x, y with
  | .ptr a _, .ptr b _ => a ≠ b
  | .ro _ _, .ro _ _ => True
  | .rp _, .rp _ => True
  | _, _ => False
theorem loadA_other {i : TyI} {h : HP} {a b off : Nat} {c : Blk} (hab : a ≠ b) : loadA i { h with bk := upd h.bk b (some c) } (.ptr a off) = loadA i h (.ptr a off) := by
  unfold loadA
  simp only [upd_other _ _ _ _ hab]
theorem storeA_at {i : TyI} {h h' : HP} {b off : Nat} {v : AV} (hs : storeA i h (.ptr b off) v = some h') : ∃ c, h' = { h with bk := upd h.bk b (some c) } := by
  unfold storeA at hs
  simp only at hs
  split at hs
  · split at hs
    · split at hs
      · cases hs; exact ⟨_, rfl⟩
      · cases hs
    · split at hs
      · cases hs; exact ⟨_, rfl⟩
      · cases hs
  · cases hs

/-- A look into memory that nobody writes may be done at once. -/
def pureSlot : Op → Option Tmp
  | .load _ (.tmp q) => some q
  | .indexAddr _ (.tmp q) _ => some q
  | _ => none
def pureRef (a : AV) : Prop := ptrNe a a
theorem pureRef_cases {a : AV} (h : pureRef a) : (∃ n cs, a = .ro n cs) ∨ ∃ cs, a = .rp cs := by
  cases a <;> simp [pureRef, ptrNe] at h <;> simp
theorem loadA_pure {i : TyI} {h k : HP} {a : AV} (hp : pureRef a) : loadA i k a = loadA i h a := by
  rcases pureRef_cases hp with ⟨n, cs, rfl⟩ | ⟨cs, rfl⟩ <;> rfl
theorem indexAddrA_pure {i : TyI} {h k : HP} {a ix : AV} (hp : pureRef a) : indexAddrA i k a ix = indexAddrA i h a ix := by
  rcases pureRef_cases hp with ⟨n, cs, rfl⟩ | ⟨cs, rfl⟩ <;> unfold indexAddrA <;> cases i.td <;> rfl
theorem exec_pureSlot {op : Op} {q : Tmp} (hq : pureSlot op = some q) {tm : Nat → AV} (hp : pureRef (tm q)) {h k h' : HP} {v : AV} (he : exec P op (AS.mk tm h).ev h = some (v, h')) : exec P op (AS.mk tm k).ev k = some (v, k) := by
  have e1 : ∀ g : HP, (AS.mk tm g).ev (.tmp q) = tm q := fun _ => rfl
  cases op <;> try (simp [pureSlot] at hq; done)
  case load t x =>
    cases x <;> simp only [pureSlot, Option.some.injEq, reduceCtorEq] at hq
    subst hq
    simp only [exec] at he ⊢
    obtain ⟨i, hi, he⟩ := withTy_spec he
    obtain ⟨c, hc, he⟩ := map_some he
    cases he
    rw [e1] at hc
    rw [← loadA_pure (k := k) hp] at hc
    simp only [e1]
    simp [withTy, hi, hc]
  case indexAddr t x ix =>
    cases x <;> simp only [pureSlot, Option.some.injEq, reduceCtorEq] at hq
    subst hq
    have e2 : (AS.mk tm k).ev ix = (AS.mk tm h).ev ix := ev_congr ix fun _ _ => rfl
    simp only [exec] at he ⊢
    obtain ⟨i, hi, he⟩ := withTy_spec he
    obtain ⟨c, hc, he⟩ := map_some he
    cases he
    rw [e1, ← e2, ← indexAddrA_pure (k := k) hp] at hc
    simp only [e1]
    simp [withTy, hi, hc]
theorem pureSlot_wr {op : Op} {q : Tmp} (hq : pureSlot op = some q) : wr op = false := by
  cases op <;> simp [pureSlot] at hq <;> rfl
theorem astep_comm3 {ops : Array Oper} {i j : Nat} {oi oj : Oper} (hi : ops[i]? = some oi) (hj : ops[j]? = some oj) (hap : oi.apart ops oj = true) {t t' : TypeId} {q p : Tmp} {x : Operand}
    (hoi : oi.op = .load t (.tmp q)) (hoj : oj.op = .store t' (.tmp p) x) {σ σ1 σ2 : AS} (hne : ptrNe (σ.tm q) (σ.tm p))
    (h1 : AStep P ops.toList i σ σ1) (h2 : AStep P ops.toList j σ1 σ2) : ∃ σ1', AStep P ops.toList j σ σ1' ∧ AStep P ops.toList i σ1' σ2 := by
  have hi' : ops.toList[i]? = some oi := by simpa using hi
  have hj' : ops.toList[j]? = some oj := by simpa using hj
  obtain ⟨v1, k1, e1, rfl⟩ := (astep_iff hi' _ _).1 h1
  obtain ⟨v2, k2, e2, rfl⟩ := (astep_iff hj' _ _).1 h2
  obtain ⟨a1, a2, a3⟩ := Oper.apart_spec hap
  have tm_put : ∀ (τ : AS) (d : Option Tmp) (v : AV) (t : Nat), (∀ x, d = some x → t ≠ x) → (τ.put d v).tm t = τ.tm t := by
    intro τ d v t h
    cases d with
    | none => rfl
    | some x => exact upd_other _ _ _ _ (h x rfl)
  rw [put_h] at e2
  simp only at e2
  have e2' : AEff P ops.toList oj σ.tm k1 v2 k2 := aeff_congr (fun t ht => tm_put (AS.mk σ.tm k1) oi.dst v1 t fun x hx hxt => a1 x hx (hxt ▸ ht)) e2
  have put_put : ∀ (k h : HP), (AS.mk ((AS.mk σ.tm k).put oi.dst v1).tm k2).put oj.dst v2 = (AS.mk ((AS.mk σ.tm h).put oj.dst v2).tm k2).put oi.dst v1 := by
    intro k h
    cases hdi : oi.dst with
    | none => cases oj.dst <;> rfl
    | some x =>
      cases hdj : oj.dst with
      | none => rfl
      | some y => exact congrArg (fun f => AS.mk f k2) (upd_comm _ _ _ _ _ (fun he => a2 x hdi (he ▸ hdj)))
  have hwi : wr oi.op = false := by rw [hoi]; rfl
  have hk1 : k1 = σ.h := aeff_wr hwi e1
  subst hk1
  have e1' : AEff P ops.toList oi σ.tm k2 v1 k2 := by
    unfold ptrNe at hne
    split at hne
    · rename_i a offa b offb hq hp
      have hh : k2 = σ.h ∨ ∃ c, k2 = { σ.h with bk := upd σ.h.bk b (some c) } := by
        unfold AEff at e2'
        split at e2'
        · rw [hoj] at e2'
          simp only [exec] at e2'
          obtain ⟨ti, hti, e2'⟩ := withTy_spec e2'
          obtain ⟨c, hc, e2'⟩ := map_some e2'
          cases e2'
          have hev : (AS.mk σ.tm σ.h).ev (.tmp p) = .ptr b offb := hp
          rw [hev] at hc
          exact .inr (storeA_at hc)
        · exact .inl e2'.2
        · exact e2'.elim
      unfold AEff at e1 ⊢
      split at e1
      · rw [hoi] at e1 ⊢
        simp only [exec] at e1 ⊢
        obtain ⟨ti, hti, e1⟩ := withTy_spec e1
        obtain ⟨c, hc, e1⟩ := map_some e1
        cases e1
        have hev : ∀ k : HP, (AS.mk σ.tm k).ev (.tmp q) = .ptr a offa := fun _ => hq
        rw [hev] at hc ⊢
        have : loadA ti k2 (.ptr a offa) = some v1 := by
          rcases hh with rfl | ⟨c, rfl⟩
          · exact hc
          · rw [loadA_other hne]; exact hc
        simp [withTy, hti, this]
      · exact ⟨e1.1, rfl⟩
      · exact e1.elim
    all_goals try (exact hne.elim)
    all_goals
      rename_i hq hp
      unfold AEff at e1 ⊢
      split at e1
      · rw [hoi] at e1 ⊢
        exact exec_pureSlot (q := q) rfl (by unfold pureRef; rw [hq]; trivial) e1
      · exact ⟨e1.1, rfl⟩
      · exact e1.elim
  refine ⟨(AS.mk σ.tm k2).put oj.dst v2, (astep_iff hj' _ _).2 ⟨v2, k2, e2', rfl⟩, (astep_iff hi' _ _).2 ⟨v1, k2, ?_, ?_⟩⟩
  · rw [put_h]
    exact aeff_congr (tm := σ.tm) (fun t ht => (tm_put (AS.mk σ.tm k2) oj.dst v2 t fun x hx hxt => a3 x hx (hxt ▸ ht)).symm) e1'
  · exact put_put _ _
theorem astep_comm4 {ops : Array Oper} {i j : Nat} {oi oj : Oper} (hi : ops[i]? = some oi) (hj : ops[j]? = some oj) (hap : oi.apart ops oj = true) {q : Tmp} (hq : pureSlot oj.op = some q) {σ σ1 σ2 : AS} (hp : pureRef (σ.tm q))
    (h1 : AStep P ops.toList i σ σ1) (h2 : AStep P ops.toList j σ1 σ2) : ∃ σ1', AStep P ops.toList j σ σ1' ∧ AStep P ops.toList i σ1' σ2 := by
  have hi' : ops.toList[i]? = some oi := by simpa using hi
  have hj' : ops.toList[j]? = some oj := by simpa using hj
  obtain ⟨v1, k1, e1, rfl⟩ := (astep_iff hi' _ _).1 h1
  obtain ⟨v2, k2, e2, rfl⟩ := (astep_iff hj' _ _).1 h2
  obtain ⟨a1, a2, a3⟩ := Oper.apart_spec hap
  have tm_put : ∀ (τ : AS) (d : Option Tmp) (v : AV) (t : Nat), (∀ x, d = some x → t ≠ x) → (τ.put d v).tm t = τ.tm t := by
    intro τ d v t h
    cases d with
    | none => rfl
    | some x => exact upd_other _ _ _ _ (h x rfl)
  rw [put_h] at e2
  simp only at e2
  have e2' : AEff P ops.toList oj σ.tm k1 v2 k2 := aeff_congr (fun t ht => tm_put (AS.mk σ.tm k1) oi.dst v1 t fun x hx hxt => a1 x hx (hxt ▸ ht)) e2
  have put_put : ∀ (k h : HP), (AS.mk ((AS.mk σ.tm k).put oi.dst v1).tm k2).put oj.dst v2 = (AS.mk ((AS.mk σ.tm h).put oj.dst v2).tm k2).put oi.dst v1 := by
    intro k h
    cases hdi : oi.dst with
    | none => cases oj.dst <;> rfl
    | some x =>
      cases hdj : oj.dst with
      | none => rfl
      | some y => exact congrArg (fun f => AS.mk f k2) (upd_comm _ _ _ _ _ (fun he => a2 x hdi (he ▸ hdj)))
  have hk : k2 = k1 := aeff_wr (pureSlot_wr hq) e2'
  subst hk
  have e2'' : AEff P ops.toList oj σ.tm σ.h v2 σ.h := by
    unfold AEff at e2' ⊢
    split at e2'
    · split at e2'
      · rename_i f args ts hop
        rw [hop] at hq
        simp [pureSlot] at hq
      · exact exec_pureSlot hq hp e2'
    · exact ⟨e2'.1, rfl⟩
    · exact e2'.elim
  refine ⟨(AS.mk σ.tm σ.h).put oj.dst v2, (astep_iff hj' _ _).2 ⟨v2, σ.h, e2'', rfl⟩, (astep_iff hi' _ _).2 ⟨v1, k2, ?_, put_put _ _⟩⟩
  rw [put_h]
  exact aeff_congr (tm := σ.tm) (fun t ht => (tm_put (AS.mk σ.tm σ.h) oj.dst v2 t fun x hx hxt => a3 x hx (hxt ▸ ht)).symm) e1
theorem astep_keeps {ops : List Oper} {i : Nat} {σ σ' : AS} {p : Tmp} (hd : ∀ o, ops[i]? = some o → o.dst ≠ some p) (hs : AStep P ops i σ σ') : σ'.tm p = σ.tm p := by
  cases ho : ops[i]? with
  | none => unfold AStep at hs; rw [ho] at hs; simp only at hs; subst hs; rfl
  | some o =>
    obtain ⟨v, h', he, rfl⟩ := (astep_iff ho _ _).1 hs
    have := hd o ho
    cases hdd : o.dst with
    | none => rfl
    | some x =>
      have hx : p ≠ x := fun he => this (by rw [hdd, he])
      exact upd_other _ _ _ _ hx
end Go.Am

/-! 'Am', part 16: the region's rule. -/
namespace Go.Am
variable {P : Program} {X : Ctx}

/-! ### What must stand ahead of what -/
theorem testBit_fold (b : Edge → Bool) (g : Edge → Nat) (j : Nat) : ∀ (l : List Edge) (s : Nat),
    (l.foldl (fun s e => if b e then s ||| 2 ^ e.on ||| g e else s) s).testBit j = (s.testBit j || l.any fun e => b e && (e.on == j || (g e).testBit j))
  | [], s => by simp
  | e :: l, s => by
    rw [List.foldl_cons, testBit_fold b g j l]
    cases hb : b e
    · simp [hb]
    · simp only [hb, if_true, Nat.testBit_or, Nat.testBit_two_pow, List.any_cons, Bool.true_and]
      have : decide (e.on = j) = (e.on == j) := by rw [Bool.eq_iff_iff]; simp
      rw [this]
      simp only [Bool.or_assoc]

def oneB (acc : Array Nat) (o : Oper) : Nat := o.after.toList.foldl (fun s e => if Region.binds .any e then s ||| 2 ^ e.on ||| acc.getD e.on 0 else s) 0
def beforeL (l : List Oper) (acc : Array Nat) : Array Nat := l.foldl (fun acc o => acc.push (oneB acc o)) acc

theorem beforeL_size : ∀ (l : List Oper) (acc : Array Nat), (beforeL l acc).size = acc.size + l.length
  | [], acc => by simp [beforeL]
  | o :: l, acc => by
    have := beforeL_size l (acc.push (oneB acc o))
    simp only [beforeL, List.foldl_cons, Array.size_push, List.length_cons] at this ⊢
    omega
theorem beforeL_old : ∀ (l : List Oper) (acc : Array Nat) (k : Nat), k < acc.size → (beforeL l acc).getD k 0 = acc.getD k 0
  | [], acc, k, _ => rfl
  | o :: l, acc, k, hk => by
    have := beforeL_old l (acc.push (oneB acc o)) k (by simp; omega)
    simp only [beforeL, List.foldl_cons] at this ⊢
    rw [this]
    simp only [Array.getD_eq_getD_getElem?]
    rw [Array.getElem?_push, if_neg (by omega)]
theorem beforeL_new : ∀ (l : List Oper) (acc : Array Nat) (k : Nat) (o : Oper), l[k]? = some o →
    ∃ acc', (∀ q, q < acc.size + k → acc'.getD q 0 = (beforeL l acc).getD q 0) ∧ (beforeL l acc).getD (acc.size + k) 0 = oneB acc' o
  | [], _, k, o, h => by simp at h
  | o :: l, acc, 0, o', h => by
    simp at h; subst h
    refine ⟨acc, fun q hq => (beforeL_old (o :: l) acc q (by omega)).symm, ?_⟩
    have := beforeL_old l (acc.push (oneB acc o)) acc.size (by simp)
    simp only [beforeL, List.foldl_cons, Nat.add_zero] at this ⊢
    rw [this]
    simp [Array.getD_eq_getD_getElem?]
  | o :: l, acc, k + 1, o', h => by
    obtain ⟨acc', h1, h2⟩ := beforeL_new l (acc.push (oneB acc o)) k o' (by simpa using h)
    refine ⟨acc', fun q hq => ?_, ?_⟩
    · have := h1 q (by simp; omega)
      simpa [beforeL] using this
    · have e : acc.size + (k + 1) = (acc.push (oneB acc o)).size + k := by simp; omega
      rw [e]
      simpa [beforeL] using h2

/-- j stands ahead of i. -/
def anc (b : Array Nat) (i j : Nat) : Bool := (b.getD i 0).testBit j

/-- A store that may go ahead of a load, if the pointers differ: the load's pointer is written ahead of it, the store's by what stands ahead of the store. -/
def dynPair (ops : Array Oper) (b : Array Nat) (dyn : List (Tmp × Tmp)) (i j : Nat) : Bool :=
  match ops[i]?, ops[j]? with
  | some oi, some oj => match oi.op, oj.op with
    | .store _ (.tmp p) _, .load _ (.tmp q) => (oj.apart ops oi && q != p) && dyn.contains (q, p) && (List.range ops.size).all fun k => match ops[k]? with
      | some o => (o.dst != some q || decide (k < j)) && (o.dst != some p || anc b i k)
      | none => true
    | _, _ => match pureSlot oi.op with
      | some q => oj.apart ops oi && dyn.contains (q, q) && (List.range ops.size).all fun k => match ops[k]? with
        | some o => o.dst != some q || anc b i k
        | none => true
      | none => false
  | _, _ => false

/-- The check of a region: slots in range, edges back, and what is not ordered does not touch. sw: two operations (this one and the next) that two runs look at. -/
def regionOk2 (N : Nat) (ops : Array Oper) (sw : Option Nat) (dyn : List (Tmp × Tmp)) : Bool :=
  let b := beforeL ops.toList #[]
  (List.range ops.size).all fun i => match ops[i]? with
    | some o => (match o.dst with | some d => decide (d < N) | none => true) && o.after.toList.all (fun e => !Region.binds .any e || decide (e.on < i)) &&
        (List.range i).all fun j => anc b i j || (match ops[j]? with | some oj => indep2 ops oj o | none => true) || dynPair ops b dyn i j || (sw == some j && i == j + 1)
    | none => true
def regionOk (N : Nat) (ops : Array Oper) : Bool := regionOk2 N ops none []

structure RegOk (N : Nat) (ops : Array Oper) (sw : Option Nat) (dyn : List (Tmp × Tmp)) : Prop where
  dst : ∀ (i : Nat) (o : Oper) (d : Nat), ops[i]? = some o → o.dst = some d → d < N
  back : ∀ (i : Nat) (o : Oper) (e : Edge), ops[i]? = some o → e ∈ o.after → Region.binds .any e = true → e.on < i
  pair : ∀ (i j : Nat) (oi oj : Oper), ops[i]? = some oi → ops[j]? = some oj → j < i → anc (beforeL ops.toList #[]) i j = false →
    indep2 ops oj oi = true ∨ dynPair ops (beforeL ops.toList #[]) dyn i j = true ∨ (sw = some j ∧ i = j + 1)

theorem regOk_of {N : Nat} {ops : Array Oper} {sw : Option Nat} {dyn : List (Tmp × Tmp)} (h : regionOk2 N ops sw dyn = true) : RegOk N ops sw dyn := by
  unfold regionOk2 at h
  simp only [List.all_eq_true, List.mem_range] at h
  have key : ∀ (i : Nat) (o : Oper), ops[i]? = some o → (match o.dst with | some d => decide (d < N) | none => true) = true ∧ (∀ e ∈ o.after.toList, (!Region.binds .any e || decide (e.on < i)) = true) ∧
      ∀ j, j < i → (anc (beforeL ops.toList #[]) i j || (match ops[j]? with | some oj => indep2 ops oj o | none => true) || dynPair ops (beforeL ops.toList #[]) dyn i j || (sw == some j && i == j + 1)) = true := by
    intro i o ho
    have hi := h i (Array.getElem?_eq_some_iff.1 ho).1
    simp only [ho, Bool.and_eq_true, List.all_eq_true, List.mem_range] at hi
    exact ⟨hi.1.1, hi.1.2, hi.2⟩
  refine ⟨fun i o d ho hd => ?_, fun i o e ho he hb => ?_, fun i j oi oj hi hj hlt hn => ?_⟩
  · have := (key i o ho).1
    rw [hd] at this
    simpa using this
  · have := (key i o ho).2.1 e (by simpa using he)
    simpa [hb] using this
  · have := (key i oi hi).2.2 j hlt
    rw [hn, hj] at this
    simp only [Bool.false_or, Bool.or_eq_true, Bool.and_eq_true, beq_iff_eq, or_assoc] at this
    exact this

/-- The listed operations are closed under what stands ahead. -/
def Closed (ops : Array Oper) (listed : Array Bool) : Prop :=
  ∀ (i : Nat) (o : Oper) (e : Edge), ops[i]? = some o → listed.getD i false = true → e ∈ o.after → Region.binds .any e = true → listed.getD e.on false = true

theorem anc_listed {N : Nat} {ops : Array Oper} {sw : Option Nat} {dyn : List (Tmp × Tmp)} (R : RegOk N ops sw dyn) {listed : Array Bool} (hc : Closed ops listed) : ∀ (i : Nat) (o : Oper), ops[i]? = some o →
    (∀ e ∈ o.after, Region.binds .any e = true → listed.getD e.on false = true) → ∀ j, anc (beforeL ops.toList #[]) i j = true → listed.getD j false = true := by
  intro i
  induction i using Nat.strongRecOn with
  | _ i ih =>
    intro o ho he j hj
    have ho' : ops.toList[i]? = some o := by simpa using ho
    obtain ⟨acc', h1, h2⟩ := beforeL_new ops.toList #[] i o ho'
    simp only [List.size_toArray, List.length_nil, Nat.zero_add] at h1 h2
    unfold anc at hj
    rw [h2, oneB, testBit_fold] at hj
    simp only [Nat.zero_testBit, Bool.false_or, List.any_eq_true, Bool.and_eq_true, Bool.or_eq_true, beq_iff_eq] at hj
    obtain ⟨e, hm, hb, hjj⟩ := hj
    have hm' : e ∈ o.after := by simpa using hm
    have hlt := R.back i o e ho hm' hb
    have hl := he e hm' hb
    rcases hjj with rfl | hjj
    · exact hl
    · rw [h1 e.on hlt] at hjj
      have hsz : e.on < ops.size := Nat.lt_trans hlt (Array.getElem?_eq_some_iff.1 ho).1
      have hoe : ops[e.on]? = some ops[e.on] := Array.getElem?_eq_getElem hsz
      exact ih e.on hlt _ hoe (fun e' he' hb' => hc e.on _ e' hoe hl he' hb') j hjj

theorem HRel.tidy {h : HP} {M : Mem} (H : HRel X h M) : h.tidy := by
  intro id hid
  cases hb : h.bk id with
  | none => rfl
  | some b =>
    have hD : M.D id := (H.dom id).2 (by simp [hb])
    have := H.lt id hD
    rw [H.n] at this
    omega
/-! ### Lists of steps -/
def ASteps (P : Program) (ops : List Oper) : List Nat → AS → AS → Prop
  | [], σ, σ' => σ' = σ
  | i :: l, σ, σ' => ∃ τ, AStep P ops i σ τ ∧ ASteps P ops l τ σ'

theorem asteps_keeps {ops : List Oper} {p : Tmp} : ∀ (l : List Nat) (σ σ' : AS), (∀ k ∈ l, ∀ o, ops[k]? = some o → o.dst ≠ some p) → ASteps P ops l σ σ' → σ'.tm p = σ.tm p
  | [], σ, σ', _, h => by cases h; rfl
  | k :: l, σ, σ', hd, ⟨τ, h1, h2⟩ => by
    rw [asteps_keeps l τ σ' (fun k hk => hd k (.tail _ hk)) h2]
    exact astep_keeps (hd k (.head _)) h1

/-- The pair's operation may be moved ahead: by what they are, or since the pointers differ at the end. -/
def CanPass (ops : Array Oper) (oi : Oper) (tm : Nat → AV) (rest : List Nat) (j : Nat) : Prop :=
  ∃ oj, ops[j]? = some oj ∧ (indep2 ops oj oi = true ∨ (∃ t t' q p x, oj.op = .load t (.tmp q) ∧ oi.op = .store t' (.tmp p) x ∧ oj.apart ops oi = true ∧ ptrNe (tm q) (tm p) ∧
    (∀ k ∈ rest, ∀ o, ops[k]? = some o → o.dst ≠ some q ∧ o.dst ≠ some p)) ∨ ∃ q, pureSlot oi.op = some q ∧ oj.apart ops oi = true ∧ pureRef (tm q) ∧ ∀ k ∈ rest, ∀ o, ops[k]? = some o → o.dst ≠ some q)
def Front (ops : Array Oper) (i : Nat) (oi : Oper) (tm : Nat → AV) (l2 : List Nat) : List Nat → Prop
  | [] => True
  | j :: l1 => CanPass ops oi tm (j :: (l1 ++ i :: l2)) j ∧ Front ops i oi tm l2 l1

theorem asteps_front {ops : Array Oper} {i : Nat} {oi : Oper} (hi : ops[i]? = some oi) : ∀ (l1 l2 : List Nat) (σ σ' : AS), σ.h.tidy → ASteps P ops.toList (l1 ++ i :: l2) σ σ' →
    Front ops i oi σ'.tm l2 l1 → ∃ τ, AStep P ops.toList i σ τ ∧ ASteps P ops.toList (l1 ++ l2) τ σ'
  | [], l2, σ, σ', _, h, _ => h
  | j :: l1, l2, σ, σ', ht, h, hf => by
    have hall := h
    obtain ⟨τ, h1, h2⟩ := h
    obtain ⟨τ2, h3, h4⟩ := asteps_front hi l1 l2 τ σ' (astep_tidy ht h1) h2 hf.2
    obtain ⟨oj, hj, hij⟩ := hf.1
    have hsw : ∃ σ1', AStep P ops.toList i σ σ1' ∧ AStep P ops.toList j σ1' τ2 := by
      rcases hij with hij | ⟨t, t', q, p, x, hoj, hoi, hap, hne, hk⟩ | ⟨q, hq, hap, hp, hk⟩
      · exact astep_comm2 hj hi hij ht h1 h3
      · have kq := asteps_keeps (p := q) _ _ _ (fun k hkm o ho => (hk k hkm o (by simpa using ho)).1) hall
        have kp := asteps_keeps (p := p) _ _ _ (fun k hkm o ho => (hk k hkm o (by simpa using ho)).2) hall
        rw [kq, kp] at hne
        exact astep_comm3 hj hi hap hoj hoi hne h1 h3
      · have kq := asteps_keeps (p := q) _ _ _ (fun k hkm o ho => hk k hkm o (by simpa using ho)) hall
        rw [kq] at hp
        exact astep_comm4 hj hi hap hq hp h1 h3
    obtain ⟨τ3, h5, h6⟩ := hsw
    exact ⟨τ3, h5, τ2, h6, h4⟩

def dynOk (dyn : List (Tmp × Tmp)) (tm : Nat → AV) : Prop := ∀ x ∈ dyn, ptrNe (tm x.1) (tm x.2)

theorem front_of {ops : Array Oper} {i : Nat} {oi : Oper} {tm : Nat → AV} {l2 : List Nat} : ∀ (l1 : List Nat), (l1 ++ i :: l2).Pairwise (· < ·) →
    (∀ j ∈ l1, ∃ oj, ops[j]? = some oj ∧ (indep2 ops oj oi = true ∨ (∃ t t' q p x, oj.op = .load t (.tmp q) ∧ oi.op = .store t' (.tmp p) x ∧ oj.apart ops oi = true ∧ ptrNe (tm q) (tm p) ∧
      ∀ k ∈ l1 ++ i :: l2, ∀ o, ops[k]? = some o → (o.dst = some q → k < j) ∧ o.dst ≠ some p) ∨ ∃ q, pureSlot oi.op = some q ∧ oj.apart ops oi = true ∧ pureRef (tm q) ∧ ∀ k ∈ l1 ++ i :: l2, ∀ o, ops[k]? = some o → o.dst ≠ some q)) → Front ops i oi tm l2 l1
  | [], _, _ => trivial
  | j :: l1, hs, h => by
    rw [List.cons_append, List.pairwise_cons] at hs
    refine ⟨?_, front_of l1 hs.2 fun j' hj' => ?_⟩
    · obtain ⟨oj, hoj, hc⟩ := h j (.head _)
      refine ⟨oj, hoj, hc.imp id (Or.imp ?_ id)⟩
      rintro ⟨t, t', q, p, x, e1, e2, e3, e4, e5⟩
      refine ⟨t, t', q, p, x, e1, e2, e3, e4, fun k hk o ho => ⟨fun hq => ?_, (e5 k hk o ho).2⟩⟩
      have hlt := (e5 k hk o ho).1 hq
      cases hk with
      | head => omega
      | tail _ hk => have := hs.1 k hk; omega
    · obtain ⟨oj, hoj, hc⟩ := h j' (.tail _ hj')
      exact ⟨oj, hoj, hc.imp id (Or.imp (fun ⟨t, t', q, p, x, e1, e2, e3, e4, e5⟩ => ⟨t, t', q, p, x, e1, e2, e3, e4, fun k hk => e5 k (.tail _ hk)⟩) fun ⟨q, e1, e2, e3, e4⟩ => ⟨q, e1, e2, e3, fun k hk => e4 k (.tail _ hk)⟩)⟩

/-- What is still to be done, in the text's order. -/
def remOf (n : Nat) (listed : Array Bool) : List Nat := (List.range n).filter fun i => !listed.getD i true

theorem rem_split {n : Nat} {listed : Array Bool} {i : Nat} (hi : i < n) (hu : listed.getD i true = false) :
    ∃ l1 l2, remOf n listed = l1 ++ i :: l2 ∧ remOf n (listed.setIfInBounds i true) = l1 ++ l2 ∧ (∀ j ∈ l1, j < i ∧ j < n ∧ listed.getD j true = false) ∧ l1 = (List.range i).filter (fun j => !listed.getD j true) := by
  have hr : List.range n = List.range i ++ i :: (List.range' (i + 1) (n - i - 1)) := by
    rw [List.range_eq_range', List.range_eq_range', show n = i + (1 + (n - i - 1)) by omega, ← List.range'_append_1, ← List.range'_append_1]
    simp
  have hsz : i < listed.size := by
    rcases Nat.lt_or_ge i listed.size with h | h
    · exact h
    · simp [Array.getD_eq_getD_getElem?, Array.getElem?_eq_none h] at hu
  have hset : ∀ j, j ≠ i → (listed.setIfInBounds i true).getD j true = listed.getD j true := fun j hj => by
    simp [Array.getD_eq_getD_getElem?, Array.getElem?_setIfInBounds_ne (Ne.symm hj)]
  have hsi : (listed.setIfInBounds i true).getD i true = true := by simp [Array.getD_eq_getD_getElem?, hsz]
  refine ⟨(List.range i).filter (fun j => !listed.getD j true), (List.range' (i + 1) (n - i - 1)).filter (fun j => !listed.getD j true), ?_, ?_, ?_, rfl⟩
  · unfold remOf
    rw [hr, List.filter_append, List.filter_cons, if_pos (by simp [hu])]
  · unfold remOf
    rw [hr, List.filter_append, List.filter_cons, if_neg (by simp [hsi])]
    congr 1
    · refine List.filter_congr fun j hj => ?_
      rw [hset j (by have := List.mem_range.1 hj; omega)]
    · refine List.filter_congr fun j hj => ?_
      rw [hset j (by have := List.mem_range'_1.1 hj; omega)]
  · intro j hj
    have := List.mem_filter.1 hj
    have h1 := List.mem_range.1 this.1
    exact ⟨h1, by omega, by simpa using this.2⟩

theorem getD_set_mono (l : Array Bool) (i b : Nat) (h : l.getD b true = true) : (l.setIfInBounds i true).getD b true = true := by
  by_cases hb : b = i
  · subst hb
    by_cases hs : b < l.size
    · simp [Array.getD_eq_getD_getElem?, hs]
    · simp [Array.getD_eq_getD_getElem?, hs]
  · simp only [Array.getD_eq_getD_getElem?, Array.getElem?_setIfInBounds_ne (Ne.symm hb)] at h ⊢
    exact h
theorem ready_rem {ops : Array Oper} : ∀ (listed : Array Bool) (i : Nat), i ∈ Region.ready .any ops listed → i < ops.size ∧ listed.getD i true = false := by
  intro listed i hi
  have := mem_ready.1 hi
  obtain ⟨h0, o, ho, _⟩ := this
  exact ⟨(Array.getElem?_eq_some_iff.1 ho).1, h0⟩
theorem nil_rem {N : Nat} {ops : Array Oper} {sw : Option Nat} {dyn : List (Tmp × Tmp)} (R : RegOk N ops sw dyn) : ∀ (listed : Array Bool), Region.ready .any ops listed = [] → remOf ops.size listed = [] := by
  intro listed hr
  rcases hrem : remOf ops.size listed with _ | ⟨i, l⟩
  · rfl
  · exfalso
    have hi : i ∈ remOf ops.size listed := by rw [hrem]; exact .head _
    have h1 := List.mem_filter.1 hi
    have hlt := List.mem_range.1 h1.1
    have hiu : listed.getD i true = false := by simpa using h1.2
    have : i ∈ Region.ready .any ops listed := by
      refine mem_ready.2 ⟨hiu, ops[i], Array.getElem?_eq_getElem hlt, fun e he hb => ?_⟩
      have hlt2 := R.back i _ e (Array.getElem?_eq_getElem hlt) he hb
      cases hle : listed.getD e.on false with
      | true => rfl
      | false =>
        exfalso
        obtain ⟨l1, l2, q1, q2, q3, q4⟩ := rem_split hlt hiu
        -- e.on is unlisted, less than i: it stands ahead of i in the list
        have hsz : e.on < listed.size := by
          have : i < listed.size := by
            rcases Nat.lt_or_ge i listed.size with h | h
            · exact h
            · simp [Array.getD_eq_getD_getElem?, Array.getElem?_eq_none h] at hiu
          omega
        have heu : listed.getD e.on true = false := by
          simp [Array.getD_eq_getD_getElem?, hsz] at hle ⊢
          exact hle
        have hmem : e.on ∈ remOf ops.size listed := List.mem_filter.2 ⟨List.mem_range.2 (by omega), by simp [heu]⟩
        have hsorted : (remOf ops.size listed).Pairwise (· < ·) := List.Pairwise.filter _ List.pairwise_lt_range
        rw [hrem] at hmem hsorted
        cases hmem with
        | head => omega
        | tail _ h => have := List.rel_of_pairwise_cons hsorted h; omega
    rw [hr] at this
    cases this
theorem any_sound {N : Nat} {ops : Array Oper} {sw : Option Nat} {dyn : List (Tmp × Tmp)} (R : RegOk N ops sw dyn) {Q : Exit → Act → World → Prop} {O : Nat → Prop} : ∀ (fuel : Nat) (listed : Array Bool) (σ σ' : AS) (M : Mem) (a : Act),
    (remOf ops.size listed).length ≤ fuel → Closed ops listed → (∀ a, sw = some a → listed.getD a true = true ∨ listed.getD (a + 1) true = true) → dynOk dyn σ'.tm → ASteps P ops.toList (remOf ops.size listed) σ σ' → Rel N X σ M a → M.O = O → (∀ M' a', Rel N X σ' M' a' → M'.O = O → Q .normal a' M'.w) →
      wpAny P .any ops Q fuel listed a M.w := by
  have ready_rem := @ready_rem ops
  have nil_rem := nil_rem R
  intro fuel
  induction fuel with
  | zero =>
    intro listed σ σ' M a hf hc hsw hdy hs hR hO hQ
    have hrem : remOf ops.size listed = [] := List.eq_nil_of_length_eq_zero (by omega)
    refine ⟨?_, ?_⟩
    · rcases hready : Region.ready .any ops listed with _ | ⟨i, l⟩
      · rfl
      · exfalso
        obtain ⟨h1, h2⟩ := ready_rem listed i (by rw [hready]; exact .head _)
        have : i ∈ remOf ops.size listed := List.mem_filter.2 ⟨List.mem_range.2 h1, by simp [h2]⟩
        rw [hrem] at this; cases this
    · rw [hrem] at hs
      cases hs
      exact hQ M a hR hO
  | succ fuel ih =>
    intro listed σ σ' M a hf hc hsw hdy hs hR hO hQ
    refine ⟨fun hr => ?_, fun i hi => ?_⟩
    · rw [nil_rem listed hr] at hs
      cases hs
      exact hQ M a hR hO
    · obtain ⟨hlt, hiu⟩ := ready_rem listed i hi
      obtain ⟨l1, l2, q1, q2, q3, q4⟩ := rem_split hlt hiu
      obtain ⟨_, oi, hoi, hall⟩ := mem_ready.1 hi
      rw [q1] at hs
      have unl : ∀ k, k ∈ l1 ++ i :: l2 → listed.getD k true = false := fun k hk => by
        rw [← q1] at hk
        simpa using (List.mem_filter.1 hk).2
      have hanc : ∀ j, listed.getD j true = false → anc (beforeL ops.toList #[]) i j = false := by
        intro j hju
        cases hanc : anc (beforeL ops.toList #[]) i j with
        | false => rfl
        | true =>
          exfalso
          have := anc_listed R hc i oi hoi hall j hanc
          have hsz : j < listed.size := by
            rcases Nat.lt_or_ge j listed.size with h | h
            · exact h
            · simp [Array.getD_eq_getD_getElem?, Array.getElem?_eq_none h] at hju
          simp [Array.getD_eq_getD_getElem?, hsz] at this hju
          rw [this] at hju; cases hju
      have hfront : Front ops i oi σ'.tm l2 l1 := by
        refine front_of l1 (q1 ▸ List.Pairwise.filter _ List.pairwise_lt_range) fun j hj => ?_
        obtain ⟨hji, hjn, hju⟩ := q3 j hj
        refine ⟨ops[j], Array.getElem?_eq_getElem hjn, ?_⟩
        rcases R.pair i j oi _ hoi (Array.getElem?_eq_getElem hjn) hji (hanc j hju) with h | h | ⟨h, hij⟩
        · exact .inl h
        · refine .inr ?_
          unfold dynPair at h
          rw [hoi, Array.getElem?_eq_getElem hjn] at h
          simp only at h
          split at h
          · rename_i t' p x t q hop hop2
            simp only [Bool.and_eq_true, List.all_eq_true, List.mem_range] at h
            obtain ⟨⟨h1, h2⟩, h3⟩ := h
            have hd2 := hdy (q, p) (by simpa using h2)
            have hne := hd2
            have h1 := h1.1
            refine .inl ⟨t, t', q, p, x, hop2, hop, h1, hne, fun k hk o ho => ?_⟩
            have hkn := (Array.getElem?_eq_some_iff.1 ho).1
            have h4 := h3 k hkn
            rw [ho] at h4
            simp only [Bool.and_eq_true, Bool.or_eq_true, bne_iff_ne, ne_eq, decide_eq_true_eq] at h4
            refine ⟨fun hq => h4.1.resolve_left fun hn => hn hq, fun hp => ?_⟩
            have := h4.2.resolve_left fun hn => hn hp
            rw [hanc k (unl k hk)] at this
            cases this
          · split at h
            · rename_i q hq
              simp only [Bool.and_eq_true, List.all_eq_true, List.mem_range] at h
              obtain ⟨⟨h1, h2⟩, h3⟩ := h
              have hd2 := hdy (q, q) (by simpa using h2)
              refine .inr ⟨q, hq, h1, hd2, fun k hk o ho hp => ?_⟩
              have hkn := (Array.getElem?_eq_some_iff.1 ho).1
              have h4 := h3 k hkn
              rw [ho] at h4
              simp only [Bool.or_eq_true, bne_iff_ne, ne_eq] at h4
              have := h4.resolve_left fun hn => hn hp
              rw [hanc k (unl k hk)] at this
              cases this
            · cases h
        · exfalso
          rcases hsw j h with h5 | h5
          · rw [hju] at h5; cases h5
          · rw [← hij, hiu] at h5; cases h5
      obtain ⟨τ, h1, h2⟩ := asteps_front hoi l1 l2 σ σ' hR.heap.tidy hs hfront
      refine astep_sound hR h1 (fun o d ho hd => R.dst i o d ho hd) fun M' a' hR' hO' => ?_
      refine ih (listed.setIfInBounds i true) τ σ' M' a' ?_ ?_ (fun b hb => (hsw b hb).imp (getD_set_mono _ _ _) (getD_set_mono _ _ _)) hdy (q2 ▸ h2) hR' (hO'.trans hO) hQ
      · rw [q2]
        rw [q1] at hf
        simp at hf ⊢
        omega
      · intro k o e ho hk he hb
        by_cases hki : k = i
        · subst hki
          rw [hoi] at ho; cases ho
          exact getD_set_true (hall e he hb)
        · have : listed.getD k false = true := by
            rwa [getD_set_ne false (Ne.symm hki)] at hk
          exact getD_set_true (hc k o e ho this he hb)

theorem remOf_all (n : Nat) : remOf n (Array.replicate n false) = List.range n := by
  unfold remOf
  refine List.filter_eq_self.2 fun i hi => ?_
  have := List.mem_range.1 hi
  simp [Array.getD_eq_getD_getElem?, this]

def dstOk (N : Nat) (ops : Array Oper) : Bool := ops.toList.all fun o => match o.dst with | some d => decide (d < N) | none => true
theorem dstOk_spec {N : Nat} {ops : Array Oper} (h : dstOk N ops = true) (i : Nat) (o : Oper) (d : Nat) (ho : ops[i]? = some o) (hd : o.dst = some d) : d < N := by
  have hm : o ∈ ops.toList := List.mem_of_getElem? (by simpa using ho)
  have := List.all_eq_true.1 h o hm
  rw [hd] at this
  simpa using this
def regOkD (N : Nat) (ops : Array Oper) (draw : Bool) : Bool := if draw then regionOk N ops else dstOk N ops

/-- The region's rule, whether its order is drawn or not. -/
theorem region_sound {N : Nat} {ops : Array Oper} {draw : Bool} {id : Nat} (hm : P.follows .mixedOrders = true) (hok : regOkD N ops draw = true) {Q : Exit → Act → World → Prop} {σ σ' : AS} {M : Mem} {a : Act}
    (hs : ASteps P ops.toList (List.range ops.size) σ σ') (hR : Rel N X σ M a) (hQ : ∀ M' a', Rel N X σ' M' a' → M'.O = M.O → Q .normal a' M'.w) : (Code.region id ops draw).wp P Q a M.w := by
  cases draw with
  | true =>
    have R := regOk_of hok
    refine wp_region_any hm ?_
    have hE := hR.heap.ext (Ext.drawn M.w (M.w.drawn + 1))
    have hR2 : Rel N X σ { M with w := { M.w with drawn := M.w.drawn + 1 } } a := ⟨hE.2, hR.size, hR.defers, hR.okD, fun t => VRel.mono hE.1 _ _ (hR.tm t), hR.inv.le hE.1⟩
    refine any_sound R (O := M.O) ops.size _ σ σ' { M with w := { M.w with drawn := M.w.drawn + 1 } } a ?_ ?_ (fun _ h => by cases h) (fun _ h => by cases h) ?_ hR2 rfl hQ
    · rw [remOf_all]; simp
    · intro i o e ho hl
      have := (Array.getElem?_eq_some_iff.1 ho).1
      simp [Array.getD_eq_getD_getElem?, this] at hl
    · rw [remOf_all]; exact hs
  | false =>
    have hd := dstOk_spec hok
    refine wp_region ?_
    have key : ∀ (l : List Nat) (σ : AS) (M : Mem) (a : Act) (O : Nat → Prop), ASteps P ops.toList l σ σ' → Rel N X σ M a → M.O = O → (∀ M' a', Rel N X σ' M' a' → M'.O = O → Q .normal a' M'.w) → wpOps P ops Q l a M.w := by
      intro l
      induction l with
      | nil => intro σ M a O h hR hO hQ; cases h; exact hQ M a hR hO
      | cons i l ih =>
        intro σ M a O h hR hO hQ
        obtain ⟨τ, h1, h2⟩ := h
        rw [wpOps_cons]
        exact astep_sound hR h1 (fun o d ho hdd => hd i o d ho hdd) fun M' a' hR' hO' => ih τ M' a' O h2 hR' (hO'.trans hO) hQ
    exact key _ σ M a M.O hs hR rfl hQ

theorem region_sound2 {N : Nat} {ops : Array Oper} {dyn : List (Tmp × Tmp)} {id : Nat} (hm : P.follows .mixedOrders = true) (hok : regionOk2 N ops none dyn = true) {Q : Exit → Act → World → Prop} {σ σ' : AS} {M : Mem} {a : Act}
    (hs : ASteps P ops.toList (List.range ops.size) σ σ') (hd : dynOk dyn σ'.tm) (hR : Rel N X σ M a) (hQ : ∀ M' a', Rel N X σ' M' a' → M'.O = M.O → Q .normal a' M'.w) : (Code.region id ops true).wp P Q a M.w := by
  have R := regOk_of hok
  refine wp_region_any hm ?_
  have hE := hR.heap.ext (Ext.drawn M.w (M.w.drawn + 1))
  have hR2 : Rel N X σ { M with w := { M.w with drawn := M.w.drawn + 1 } } a := ⟨hE.2, hR.size, hR.defers, hR.okD, fun t => VRel.mono hE.1 _ _ (hR.tm t), hR.inv.le hE.1⟩
  refine any_sound R (O := M.O) ops.size _ σ σ' { M with w := { M.w with drawn := M.w.drawn + 1 } } a ?_ ?_ (fun _ h => by cases h) hd ?_ hR2 rfl hQ
  · rw [remOf_all]; simp
  · intro i o e ho hl
    have := (Array.getElem?_eq_some_iff.1 ho).1
    simp [Array.getD_eq_getD_getElem?, this] at hl
  · rw [remOf_all]; exact hs

/-! ### Two runs: an operation and the next one, in both orders -/
theorem front_indep {ops : Array Oper} {i : Nat} {oi : Oper} {tm : Nat → AV} {l2 : List Nat} : ∀ (l1 : List Nat), (∀ j ∈ l1, ∃ oj, ops[j]? = some oj ∧ indep2 ops oj oi = true) → Front ops i oi tm l2 l1
  | [], _ => trivial
  | j :: l1, h => ⟨let ⟨oj, h1, h2⟩ := h j (.head _); ⟨oj, h1, .inl h2⟩, front_indep l1 fun k hk => h k (.tail _ hk)⟩
theorem asteps_append {ops : List Oper} : ∀ (l1 l2 : List Nat) (σ σ0 σ' : AS), ASteps P ops l1 σ σ0 → ASteps P ops l2 σ0 σ' → ASteps P ops (l1 ++ l2) σ σ'
  | [], _, _, _, _, h1, h2 => by cases h1; exact h2
  | _ :: l1, l2, _, _, _, ⟨τ, h1, h2⟩, h3 => ⟨τ, h1, asteps_append l1 l2 _ _ _ h2 h3⟩
def remHi (n a : Nat) (listed : Array Bool) : List Nat := (List.range' (a + 2) (n - a - 2)).filter fun i => !listed.getD i true
theorem rem_mid {n a : Nat} {listed : Array Bool} (han : a + 1 < n) (hla : listed.getD a true = false) (hlb : listed.getD (a + 1) true = false) : remOf n listed = remOf a listed ++ a :: (a + 1) :: remHi n a listed := by
  have hr : List.range n = List.range a ++ a :: (a + 1) :: List.range' (a + 2) (n - a - 2) := by
    rw [List.range_eq_range', List.range_eq_range', show n = a + (1 + (1 + (n - a - 2))) by omega, ← List.range'_append_1, ← List.range'_append_1, ← List.range'_append_1]
    simp
    omega
  unfold remOf remHi
  rw [hr, List.filter_append, List.filter_cons, List.filter_cons, hla, hlb]
  rfl
theorem remHi_set {n a i : Nat} {listed : Array Bool} (hi : i < a) : remHi n a (listed.setIfInBounds i true) = remHi n a listed := by
  refine List.filter_congr fun j hj => ?_
  have := List.mem_range'_1.1 hj
  rw [getD_set_ne true (by omega)]

theorem any_sound2 {N : Nat} {ops : Array Oper} {a : Nat} (R : RegOk N ops (some a) []) (han : a + 1 < ops.size)
    (hlast : ∀ i, a + 1 < i → i < ops.size → anc (beforeL ops.toList #[]) i a = true ∨ anc (beforeL ops.toList #[]) i (a + 1) = true) {Q : Exit → Act → World → Prop} {O : Nat → Prop} :
    ∀ (fuel : Nat) (listed : Array Bool) (σ σ0 σ1 σ2 : AS) (M : Mem) (act : Act),
    (remOf ops.size listed).length ≤ fuel → Closed ops listed → listed.getD a true = false → listed.getD (a + 1) true = false →
      ASteps P ops.toList (remOf a listed) σ σ0 → ASteps P ops.toList (a :: (a + 1) :: remHi ops.size a listed) σ0 σ1 → ASteps P ops.toList ((a + 1) :: a :: remHi ops.size a listed) σ0 σ2 → Rel N X σ M act → M.O = O →
      (∀ M' a', Rel N X σ1 M' a' → M'.O = O → Q .normal a' M'.w) → (∀ M' a', Rel N X σ2 M' a' → M'.O = O → Q .normal a' M'.w) →
      wpAny P .any ops Q fuel listed act M.w := by
  have ready_rem := @ready_rem ops
  have nil_rem := nil_rem R
  have mem : ∀ (listed : Array Bool), listed.getD a true = false → a ∈ remOf ops.size listed := fun listed h => List.mem_filter.2 ⟨List.mem_range.2 (by omega), by simp only [h, Bool.not_false]⟩
  intro fuel
  induction fuel with
  | zero =>
    intro listed σ σ0 σ1 σ2 M act hf hc hla
    have hrem : remOf ops.size listed = [] := List.eq_nil_of_length_eq_zero (by omega)
    have := mem listed hla
    rw [hrem] at this; cases this
  | succ fuel ih =>
    intro listed σ σ0 σ1 σ2 M act hf hc hla hlb hs0 hs1 hs2 hR hO hQ1 hQ2
    refine ⟨fun hr => ?_, fun i hi => ?_⟩
    · have := mem listed hla
      rw [nil_rem listed hr] at this; cases this
    · obtain ⟨hlt, hiu⟩ := ready_rem listed i hi
      obtain ⟨l1, l2, q1, q2, q3, q4⟩ := rem_split hlt hiu
      obtain ⟨_, oi, hoi, hall⟩ := mem_ready.1 hi
      have hmid := rem_mid han hla hlb
      have hanc : ∀ j, listed.getD j true = false → anc (beforeL ops.toList #[]) i j = false := by
        intro j hju
        cases hanc : anc (beforeL ops.toList #[]) i j with
        | false => rfl
        | true =>
          exfalso
          have := anc_listed R hc i oi hoi hall j hanc
          have hsz : j < listed.size := by
            rcases Nat.lt_or_ge j listed.size with h | h
            · exact h
            · simp [Array.getD_eq_getD_getElem?, Array.getElem?_eq_none h] at hju
          simp [Array.getD_eq_getD_getElem?, hsz] at this hju
          rw [this] at hju; cases hju
      have hind : ∀ j, j < i → listed.getD j true = false → ¬ (j = a ∧ i = a + 1) → ∃ oj, ops[j]? = some oj ∧ indep2 ops oj oi = true := by
        intro j hji hju hne
        have hjn : j < ops.size := by omega
        refine ⟨ops[j], Array.getElem?_eq_getElem hjn, ?_⟩
        rcases R.pair i j oi _ hoi (Array.getElem?_eq_getElem hjn) hji (hanc j hju) with h | h | ⟨h, hij⟩
        · exact h
        · unfold dynPair at h
          split at h
          · split at h
            · simp at h
            · split at h
              · simp at h
              · cases h
          · cases h
        · cases h; exact (hne ⟨rfl, hij⟩).elim
      have hf' : (l1 ++ l2).length ≤ fuel := by
        rw [q1] at hf
        simp at hf ⊢
        omega
      have hc' : Closed ops (listed.setIfInBounds i true) := by
        intro k o e ho hk he hb
        by_cases hki : k = i
        · subst hki
          rw [hoi] at ho; cases ho
          exact getD_set_true (hall e he hb)
        · have : listed.getD k false = true := by
            rwa [getD_set_ne false (Ne.symm hki)] at hk
          exact getD_set_true (hc k o e ho this he hb)
      have hset : ∀ k, k = i → (listed.setIfInBounds i true).getD k true = true := by
        intro k hki
        subst hki
        by_cases hs : k < listed.size
        · simp [Array.getD_eq_getD_getElem?, hs]
        · simp [Array.getD_eq_getD_getElem?, hs]
      have hlow : ∀ j ∈ remOf a listed, j < a ∧ listed.getD j true = false := fun j hj => by
        have := List.mem_filter.1 hj
        exact ⟨List.mem_range.1 this.1, by simpa using this.2⟩
      rcases Nat.lt_trichotomy i a with hia | hia | hia
      · obtain ⟨u1, u2, p1, p2, p3, p4⟩ := rem_split (n := a) hia hiu
        rw [p1] at hs0
        have hfr := front_indep (tm := σ0.tm) (i := i) (l2 := u2) u1 fun j hj => hind j (p3 j hj).1 (p3 j hj).2.2 (by omega)
        obtain ⟨τ, h1, h2⟩ := asteps_front hoi u1 u2 σ σ0 hR.heap.tidy hs0 hfr
        refine astep_sound hR h1 (fun o d ho hd => R.dst i o d ho hd) fun M' a' hR' hO' => ?_
        refine ih _ τ σ0 σ1 σ2 M' a' (q2 ▸ hf') hc' ?_ ?_ (p2 ▸ h2) ?_ ?_ hR' (hO'.trans hO) hQ1 hQ2
        · rw [getD_set_ne true (by omega)]; exact hla
        · rw [getD_set_ne true (by omega)]; exact hlb
        · rw [remHi_set hia]; exact hs1
        · rw [remHi_set hia]; exact hs2
      · subst hia
        have hl1 : l1 = remOf i listed := q4
        have hl2 : l2 = (i + 1) :: remHi ops.size i listed := by
          rw [hmid, hl1] at q1
          have := List.append_cancel_left q1
          simpa using this.symm
        have hrun := asteps_append _ _ _ _ _ hs0 hs1
        have hfr := front_indep (tm := σ1.tm) (i := i) (l2 := (i + 1) :: remHi ops.size i listed) (remOf i listed) fun j hj => hind j (hlow j hj).1 (hlow j hj).2 (by omega)
        obtain ⟨τ, h1, h2⟩ := asteps_front hoi _ _ σ σ1 hR.heap.tidy hrun hfr
        refine astep_sound hR h1 (fun o d ho hd => R.dst i o d ho hd) fun M' a' hR' hO' => ?_
        exact any_sound R fuel _ τ σ1 M' a' (q2 ▸ hf') hc' (fun b hb => by cases hb; exact .inl (hset _ rfl)) (fun _ h => by cases h) (by rw [q2, hl1, hl2]; exact h2) hR' (hO'.trans hO) hQ1
      · by_cases hib : i = a + 1
        · have hl1 : l1 = remOf a listed ++ [a] := by
            rw [q4, hib, List.range_succ, List.filter_append]
            unfold remOf
            congr 1
            rw [List.filter_cons, hla]
            rfl
          have hl2 : l2 = remHi ops.size a listed := by
            rw [hmid, hl1, hib, List.append_assoc] at q1
            have := List.append_cancel_left q1
            simpa using this.symm
          have hrun := asteps_append _ _ _ _ _ hs0 hs2
          rw [← hib] at hrun
          have hfr := front_indep (tm := σ2.tm) (i := i) (l2 := a :: remHi ops.size a listed) (remOf a listed) fun j hj => hind j (by have := hlow j hj; omega) (hlow j hj).2 (by have := hlow j hj; omega)
          obtain ⟨τ, h1, h2⟩ := asteps_front hoi _ _ σ σ2 hR.heap.tidy hrun hfr
          refine astep_sound hR h1 (fun o d ho hd => R.dst i o d ho hd) fun M' a' hR' hO' => ?_
          exact any_sound R fuel _ τ σ2 M' a' (q2 ▸ hf') hc' (fun b hb => by cases hb; exact .inr (hset _ hib.symm)) (fun _ h => by cases h) (by rw [q2, hl1, hl2]; simpa using h2) hR' (hO'.trans hO) hQ2
        · exfalso
          rcases hlast i (by omega) hlt with h | h
          · rw [hanc a hla] at h; cases h
          · rw [hanc (a + 1) hlb] at h; cases h

/-- The static part: behind the two all hangs on one of them. -/
def lastOk (ops : Array Oper) (a : Nat) : Bool := decide (a + 1 < ops.size) && (List.range ops.size).all fun i => decide (i ≤ a + 1) || anc (beforeL ops.toList #[]) i a || anc (beforeL ops.toList #[]) i (a + 1)

theorem region_sound3 {N : Nat} {ops : Array Oper} {a : Nat} {id : Nat} (hm : P.follows .mixedOrders = true) (hok : regionOk2 N ops (some a) [] = true) (hla : lastOk ops a = true) {Q : Exit → Act → World → Prop} {σ σ0 σ1 σ2 : AS} {M : Mem} {act : Act}
    (hs0 : ASteps P ops.toList (List.range a) σ σ0) (hs1 : ASteps P ops.toList (a :: (a + 1) :: List.range' (a + 2) (ops.size - a - 2)) σ0 σ1) (hs2 : ASteps P ops.toList ((a + 1) :: a :: List.range' (a + 2) (ops.size - a - 2)) σ0 σ2)
    (hR : Rel N X σ M act) (hQ1 : ∀ M' a', Rel N X σ1 M' a' → M'.O = M.O → Q .normal a' M'.w) (hQ2 : ∀ M' a', Rel N X σ2 M' a' → M'.O = M.O → Q .normal a' M'.w) : (Code.region id ops true).wp P Q act M.w := by
  have R := regOk_of hok
  unfold lastOk at hla
  simp only [Bool.and_eq_true, decide_eq_true_eq, List.all_eq_true, List.mem_range, Bool.or_eq_true] at hla
  refine wp_region_any hm ?_
  have hE := hR.heap.ext (Ext.drawn M.w (M.w.drawn + 1))
  have hR2 : Rel N X σ { M with w := { M.w with drawn := M.w.drawn + 1 } } act := ⟨hE.2, hR.size, hR.defers, hR.okD, fun t => VRel.mono hE.1 _ _ (hR.tm t), hR.inv.le hE.1⟩
  have hall : ∀ k, k < ops.size → (Array.replicate ops.size false).getD k true = false := fun k hk => by simp [Array.getD_eq_getD_getElem?, hk]
  have hhi : remHi ops.size a (Array.replicate ops.size false) = List.range' (a + 2) (ops.size - a - 2) := List.filter_eq_self.2 fun i hi => by
    have := List.mem_range'_1.1 hi
    rw [hall i (by omega)]; rfl
  have hlo : remOf a (Array.replicate ops.size false) = List.range a := List.filter_eq_self.2 fun i hi => by
    have := List.mem_range.1 hi
    rw [hall i (by omega)]; rfl
  refine any_sound2 R hla.1 (fun i h1 h2 => ?_) (O := M.O) ops.size _ σ σ0 σ1 σ2 { M with w := { M.w with drawn := M.w.drawn + 1 } } act ?_ ?_ (hall a (by omega)) (hall _ hla.1) ?_ ?_ ?_ hR2 rfl hQ1 hQ2
  · rcases hla.2 i h2 with (h | h) | h
    · omega
    · exact .inl h
    · exact .inr h
  · rw [remOf_all]; simp
  · intro i o e ho hl
    have := (Array.getElem?_eq_some_iff.1 ho).1
    simp [Array.getD_eq_getD_getElem?, this] at hl
  · rw [hlo]; exact hs0
  · rw [hhi]; exact hs1
  · rw [hhi]; exact hs2
end Go.Am

/-! 'Am', part 17: runs of a function's code; contracts from runs. -/
namespace Go.Am
variable {P : Program} {X : Ctx}

/-! ### Every region of a code is in order -/
/-- A function, and the regions that have rules of their own. -/
structure FnE where
  fn : Func
  ex : List Nat
  k : Nat
  lp : Option LoopI
  m : Bool
def okCode (N : Nat) (ex : List Nat) : Code → Bool
  | .region id ops d => ex.contains id || regOkD N ops d
  | .seq a b => okCode N ex a && okCode N ex b
  | .cond _ a b => okCode N ex a && okCode N ex b
  | .block _ c => okCode N ex c
  | .loop c => okCode N ex c
  | .scope c => okCode N ex c
  | .rangeFunc _ _ a b => okCode N ex a && okCode N ex b
  | _ => true
def okItem (N : Nat) (ex : List Nat) : Item → Bool
  | .code c => okCode N ex c
  | .inBlock _ => true
  | .inLoop c => okCode N ex c
  | .inScope c => okCode N ex c
  | _ => false
def okTodo (N : Nat) (ex : List Nat) (k : List Item) : Bool := k.all (okItem N ex)

theorem ok_exitTo {N id : Nat} {ex : List Nat} : ∀ {k k' : List Item}, okTodo N ex k = true → exitTo id k = some k' → okTodo N ex k' = true
  | [], _, _, h => by simp [exitTo] at h
  | x :: k, k', hk, h => by
    simp only [okTodo, List.all_cons, Bool.and_eq_true] at hk
    cases x <;> simp only [exitTo] at h <;> try exact ok_exitTo hk.2 h
    split at h
    · cases h; exact hk.2
    · exact ok_exitTo hk.2 h
theorem ok_findLabel {N l : Nat} {ex : List Nat} : ∀ {c c' : Code}, okCode N ex c = true → findLabel c l = some c' → okCode N ex c' = true
  | .seq a b, c', h, hf => by
    simp only [okCode, Bool.and_eq_true] at h
    unfold findLabel at hf
    split at hf
    · rename_i rest hr
      cases hf
      simp only [okCode, Bool.and_eq_true]
      exact ⟨ok_findLabel h.1 hr, h.2⟩
    · exact ok_findLabel h.2 hf
  | .label l', c', h, hf => by
    unfold findLabel at hf
    split at hf <;> cases hf
    rfl
  | .skip, _, _, hf | .region _ _ _, _, _, hf | .cond _ _ _, _, _, hf | .block _ _, _, _, hf | .loop _, _, _, hf | .rangeFunc _ _ _ _, _, _, hf | .exit _, _, _, hf | .scope _, _, _, hf | .goto _, _, _, hf | .ret, _, _, hf | .refuse _, _, _, hf => by simp [findLabel] at hf
theorem ok_gotoIn {N l : Nat} {ex : List Nat} : ∀ {k k' : List Item}, okTodo N ex k = true → gotoIn l k = some k' → okTodo N ex k' = true
  | [], _, _, h => by simp [gotoIn] at h
  | x :: k, k', hk, h => by
    have hk0 := hk
    simp only [okTodo, List.all_cons, Bool.and_eq_true] at hk
    cases x <;> simp only [gotoIn] at h <;> try exact ok_gotoIn hk.2 h
    split at h
    · rename_i rest hr
      cases h
      simp only [okItem] at hk
      simp only [okTodo, List.all_cons, Bool.and_eq_true, okItem]
      exact ⟨ok_findLabel hk.1 hr, hk.1, hk.2⟩
    · exact ok_gotoIn hk.2 h

/-! ### Results -/
def resVar (P : Program) (σ : AS) : ResultVar → Option AV
  | .tmp t => some (σ.tm t)
  | .cell a t => withTy P t fun i => loadA i σ.h (σ.tm a)
def resVars (P : Program) (σ : AS) : List ResultVar → Option (List AV)
  | [] => some []
  | v :: vs => match resVar P σ v, resVars P σ vs with
    | some a, some as => some (a :: as)
    | _, _ => none
def resA (P : Program) (fn : Func) (σ : AS) : Option AV :=
  match resVars P σ fn.results.toList with
  | some [a] => some (view σ.h a)
  | some as => some (.tup (as.map (view σ.h)))
  | none => none

theorem resVar_sound {N : Nat} {σ : AS} {M : Mem} {a : Act} (R : Rel N X σ M a) {v : ResultVar} {c : AV} (hc : resVar P σ v = some c) :
    ∃ u, ((fun (v : ResultVar) => match v with
      | .tmp t => (pure (a.tmps.getD t undef) : Sem Value)
      | .cell ad t => do loadVar t (← asAddr (a.tmps.getD ad undef))) v).run P M.w = .ok u M.w ∧ VRel M true c u := by
  cases v with
  | tmp t =>
    simp only [resVar, Option.some.injEq] at hc
    subst hc
    exact ⟨_, rfl, R.tm t⟩
  | cell ad t =>
    obtain ⟨i, hi, hl⟩ := withTy_spec hc
    obtain ⟨u, hu, hr⟩ := loadA_sound R.heap hi (R.tm ad) hl
    have hp : ∃ q, a.tmps.getD ad undef = .pointer (some q) := by
      have hrel := R.tm ad
      unfold loadA at hl
      split at hl
      · rename_i id off hp
        rw [hp] at hrel
        split at hl
        · rename_i k hk
          obtain ⟨_, _, _, h7⟩ := hrel
          exact ⟨_, h7 ((R.heap.dom id).2 (by simp [hk]))⟩
        · cases hl
      · rename_i cs hp
        rw [hp] at hrel
        obtain ⟨_, _, _, _, _, h, _⟩ := hrel
        exact ⟨_, h⟩
      · cases hl
    obtain ⟨q, hq⟩ := hp
    rw [hq] at hu
    refine ⟨u, ?_, hr⟩
    simp only [hq, asAddr, pure_bind]
    simpa [Instr.loadAt, Instr.sureAddr] using hu
theorem resVars_sound {N : Nat} {σ : AS} {M : Mem} {a : Act} (R : Rel N X σ M a) : ∀ {vs : List ResultVar} {cs : List AV}, resVars P σ vs = some cs →
    ∃ us, (vs.mapM (m := Sem) fun (v : ResultVar) => match v with
      | .tmp t => (pure (a.tmps.getD t undef) : Sem Value)
      | .cell ad t => do loadVar t (← asAddr (a.tmps.getD ad undef))).run P M.w = .ok us M.w ∧ VRels M true cs us
  | [], cs, h => by cases h; exact ⟨[], rfl, rfl⟩
  | v :: vs, cs, h => by
    unfold resVars at h
    split at h
    · rename_i c cs' h1 h2
      cases h
      obtain ⟨u, hu, hr⟩ := resVar_sound (P := P) R h1
      obtain ⟨us, hus, hrs⟩ := resVars_sound R h2
      refine ⟨u :: us, ?_, u, us, rfl, hr, hrs⟩
      rw [List.mapM_cons]
      simp only [Sem.run_bind, hu, Result.andThen_ok, hus, Sem.run_pure]
    · cases h

theorem resA_sound {N : Nat} {σ : AS} {M : Mem} {a : Act} (R : Rel N X σ M a) {fn : Func} {c : AV} (hc : resA P fn σ = some c) :
    ∃ u, (results fn a.tmps).run P M.w = .ok u M.w ∧ VRel (Mem.callee M.O M.w) false c u := by
  unfold resA at hc
  have fin : ∀ as : List AV, resVars P σ fn.results.toList = some as → ∃ us : List Value, (results fn a.tmps).run P M.w = .ok (if h : (⟨us⟩ : Array Value).size = 1 then (⟨us⟩ : Array Value)[0] else .tuple ⟨us⟩) M.w ∧ VRels M true as us := by
    intro as has
    obtain ⟨us, hus, hrs⟩ := resVars_sound R has
    refine ⟨us, ?_, hrs⟩
    unfold results
    rw [Sem.run_bind, Array.mapM_eq_mapM_toList, Sem.run_map]
    refine (congrArg (fun (z : Result (List Value)) => ((z.andThen fun a w' => Result.ok a.toArray w').andThen fun (a : Array Value) w' => (pure (if h : a.size = 1 then a[0] else .tuple a) : Sem Value).run P w')) hus).trans ?_
    rfl
  split at hc
  · rename_i q hq
    cases hc
    obtain ⟨us, hrun, hrs⟩ := fin _ hq
    obtain ⟨u, l, rfl, h1, h2⟩ := hrs
    cases h2
    exact ⟨u, by simpa using hrun, view_rel R.heap h1⟩
  · rename_i as hne hq
    cases hc
    obtain ⟨us, hrun, hrs⟩ := fin _ hq
    have hl := hrs.length
    have hn1 : ¬ ((⟨us⟩ : Array Value).size = 1) := by
      simp only [List.size_toArray]
      intro h1
      match as, hl with
      | [q], _ => exact hne q rfl
      | [], hl => simp only [List.length_nil] at hl; omega
      | _ :: _ :: _, hl => simp only [List.length_cons] at hl; omega
    rw [dif_neg hn1] at hrun
    exact ⟨_, hrun, us, rfl, views_rel R.heap hrs⟩
  · cases hc

/-! ### Runs -/
/-- How a run ends: a value, shown to the caller; or a value and what is then known of the blocks. -/
inductive RV where
  | val (a : AV)
  | own (R : AV → HP → Prop)
def Ctx.fin (X : Ctx) : Ctx := { X with S := fun b => X.S b ∨ X.dl = [{ target := .collected b, args := #[] }], dl := [] }
def FinS (X : Ctx) (O : Nat → Prop) (r : RV) (w' : World) (v : Value) : Prop := Kept X.S X.w0 w' ∧
  match r with
  | .val a => VRel (Mem.callee O w') false a v
  | .own R => ∃ M' a h', R a h' ∧ M'.w = w' ∧ M'.O = O ∧ HRel X h' M' ∧ Inv X M' ∧ VRel M' true a v
def Fin (X : Ctx) (O : Nat → Prop) (r : RV) (w' : World) (v : Value) : Prop := FinS X.fin O r w' v
/-- A function's results, as they are. -/
def resRaw (P : Program) (fn : Func) (σ : AS) : Option AV :=
  match resVars P σ fn.results.toList with
  | some [a] => some a
  | some as => some (.tup as)
  | none => none
def resF (P : Program) (fn : FnE) (σ : AS) : RV → Prop
  | .val a => resA P fn.fn σ = some a
  | .own R => ∃ a h', R a h' ∧ (resRaw P fn.fn σ = some a ∨ (a = .dead ∧ (resRaw P fn.fn σ).isSome = true)) ∧ σ.h.nt ≤ h'.nt ∧ ∀ id b, h'.bk id = some b → σ.h.bk id = some b
def Fits (X : Ctx) (fn : FnE) : Prop := X.k = fn.k ∧ X.okL fn.lp ∧ (fn.m = false → X.dl = [])
def GoA (P : Program) (fn : FnE) (todo : List Item) (σ : AS) (r : RV) : Prop :=
  okTodo fn.fn.ntmps fn.ex todo = true → ∀ (X : Ctx) (M : Mem) (a : Act), Fits X fn → Rel fn.fn.ntmps X σ M a → ∀ (b : Frame) (cs : List Frame), b.kind = .normal → P.funcs[b.fn]? = some fn.fn →
    ∃ v w' fr, Fin X M.O r w' v ∧ Steps P (lone (b.at a todo) cs M.w) (lone fr cs w') ∧ fr.fn = b.fn ∧ fr.leaving P w' (.returned v)

def notCells : Obj → Bool
  | .cells _ _ _ => false
  | _ => true
/-- A block that is no cells is turned. -/
theorem HRel.turn {h : HP} {M : Mem} (H : HRel X h M) {b : Nat} {o o' : Obj} (hb : M.w.heap[b]? = some o) (ho : notCells o = true) :
    M.le { M with w := M.w.putObj b o' } ∧ ∀ Y : Ctx, Kept Y.S Y.w0 (M.w.putObj b o') → (∀ b, M.O b → b < Y.w0.heap.size) → (∀ id, M.D id → (Y.w0.heap.size ≤ M.φ id ∨ Y.S (M.φ id))) → HRel Y h { M with w := M.w.putObj b o' } := by
  have hcell : ∀ (k : Nat) (C : Array Value) (e : TypeId) (fz : Nat × Nat), M.w.heap[k]? = some (.cells C e fz) → (M.w.putObj b o').heap[k]? = some (.cells C e fz) := by
    intro k C e fz hk
    have : k ≠ b := by
      rintro rfl
      rw [hb] at hk
      cases hk
      cases ho
    rw [World.putObj_heap_other this]; exact hk
  have hle : M.le { M with w := M.w.putObj b o' } := by
    refine ⟨Nat.le_refl _, fun j _ hj => ⟨hj, rfl, ?_⟩, fun k C e fz hf hh => ⟨⟨fz, hcell _ _ _ _ hh⟩, hf⟩⟩
    obtain ⟨kb, hkb⟩ := Option.isSome_iff_exists.1 ((H.dom j).1 hj)
    obtain ⟨C, e, h1, _⟩ := H.bk j kb hkb
    simp only [World.shape?, hcell _ _ _ _ h1, h1]
  refine ⟨hle, fun Y hk hO hown => ⟨H.n, H.dom, H.lt, fun j kj hj => ?_, H.inj, hk, hO, fun id hd => ⟨hown id hd, (H.own id hd).2⟩⟩⟩
  obtain ⟨C, e, h1, h2, h3⟩ := H.bk j kj hj
  exact ⟨C, e, hcell _ _ _ _ h1, VPreR.mono hle _ _ h2, h3⟩
theorem HRel.unbase {Y : Ctx} {h0 h1 : HP} {N0 N1 : Mem} (H0 : HRel X h0 N0) (H1 : HRel Y h1 N1) (hsz : X.w0.heap.size ≤ Y.w0.heap.size) (hS : ∀ b, Y.S b → X.w0.heap.size ≤ b ∨ ∃ id, N0.D id ∧ N0.φ id = b) (hO : N1.O = N0.O)
    (hK : Kept X.S X.w0 N1.w) : HRel X h1 N1 :=
  ⟨H1.n, H1.dom, H1.lt, H1.bk, H1.inj, hK, fun b hb => H0.old b (by rw [← hO]; exact hb), fun id hd => ⟨by
    rcases (H1.own id hd).1 with h | h
    · exact .inl (Nat.le_trans hsz h)
    · rcases hS _ h with h | ⟨j, hj, he⟩
      · exact .inl h
      · rw [← he]; exact (H0.own j hj).1, (H1.own id hd).2⟩⟩
/-- The world from which what is kept is told anew. -/
theorem HRel.rebase {h : HP} {M : Mem} (H : HRel X h M) (k : Nat) (M0 : Mem) (dl : List Deferred) : HRel ⟨M.w, fun b => ∃ id, M.D id ∧ M.φ id = b, k, M0, dl⟩ h M :=
  ⟨H.n, H.dom, H.lt, H.bk, H.inj, ⟨rfl, rfl, rfl, Nat.le_refl _, fun _ _ _ => rfl⟩, fun b hb => Nat.lt_of_lt_of_le (H.old b hb) H.kept.size, fun id hd => ⟨.inr ⟨id, hd, rfl⟩, (H.own id hd).2⟩⟩
theorem HRel.notOwn {h : HP} {M : Mem} (H : HRel X h M) {b : Nat} {o : Obj} (hb : M.w.heap[b]? = some o) (ho : notCells o = true) : ¬ ∃ id, M.D id ∧ M.φ id = b := by
  rintro ⟨id, hd, rfl⟩
  obtain ⟨kb, hkb⟩ := Option.isSome_iff_exists.1 ((H.dom id).1 hd)
  obtain ⟨C, e, h1, _⟩ := H.bk id kb hkb
  rw [hb] at h1
  cases h1
  cases ho

/-- What is known less: blocks' numbers as they are. -/
theorem HRel.less {h τ : HP} {M : Mem} (H : HRel X h M) (hn : h.nt ≤ τ.nt) (hb : ∀ id b, τ.bk id = some b → h.bk id = some b) :
    ∃ M' : Mem, M'.w = M.w ∧ M'.O = M.O ∧ M'.φ = M.φ ∧ M'.n = τ.nt ∧ M.le M' ∧ HRel X τ M' := by
  have hD : ∀ id, (τ.bk id).isSome = true → M.D id := by
    intro id hid
    obtain ⟨b, hb1⟩ := Option.isSome_iff_exists.1 hid
    exact (H.dom id).2 (by rw [hb id b hb1]; rfl)
  let M' : Mem := { M with D := fun id => (τ.bk id).isSome = true, n := τ.nt }
  have hle : M.le M' := ⟨by show M.n ≤ τ.nt; rw [H.n]; exact hn, fun id _ hid => ⟨hD id hid, rfl, rfl⟩, fun b C e fz hf hh => ⟨⟨fz, hh⟩, fun id hid => hf.1 id (hD id hid), hf.2⟩⟩
  refine ⟨M', rfl, rfl, rfl, rfl, hle, rfl, fun id => Iff.rfl, fun id hid => ?_, fun id k hk => ?_, fun i j hi hj => H.inj i j (hD i hi) (hD j hj), H.kept, H.old, fun id hid => H.own id (hD id hid)⟩
  · exact Nat.lt_of_lt_of_le (H.lt id (hD id hid)) hle.n
  · obtain ⟨C, e, q1, q2, q3⟩ := H.bk id k (hb id k hk)
    exact ⟨C, e, q1, VPreR.mono hle _ _ q2, q3⟩
theorem resRaw_sound {N : Nat} {σ : AS} {M : Mem} {a : Act} (R : Rel N X σ M a) {fn : Func} {c : AV} (hc : resRaw P fn σ = some c) :
    ∃ u, (results fn a.tmps).run P M.w = .ok u M.w ∧ VRel M true c u := by
  unfold resRaw at hc
  have fin : ∀ as : List AV, resVars P σ fn.results.toList = some as → ∃ us : List Value, (results fn a.tmps).run P M.w = .ok (if h : (⟨us⟩ : Array Value).size = 1 then (⟨us⟩ : Array Value)[0] else .tuple ⟨us⟩) M.w ∧ VRels M true as us := by
    intro as has
    obtain ⟨us, hus, hrs⟩ := resVars_sound R has
    refine ⟨us, ?_, hrs⟩
    unfold results
    rw [Sem.run_bind, Array.mapM_eq_mapM_toList, Sem.run_map]
    refine (congrArg (fun (z : Result (List Value)) => ((z.andThen fun a w' => Result.ok a.toArray w').andThen fun (a : Array Value) w' => (pure (if h : a.size = 1 then a[0] else .tuple a) : Sem Value).run P w')) hus).trans ?_
    rfl
  split at hc
  · rename_i q hq
    cases hc
    obtain ⟨us, hrun, hrs⟩ := fin _ hq
    obtain ⟨u, l, rfl, h1, h2⟩ := hrs
    cases h2
    exact ⟨u, by simpa using hrun, h1⟩
  · rename_i as hne hq
    cases hc
    obtain ⟨us, hrun, hrs⟩ := fin _ hq
    have hl := hrs.length
    have hn1 : ¬ ((⟨us⟩ : Array Value).size = 1) := by
      simp only [List.size_toArray]
      intro h1
      match as, hl with
      | [q], _ => exact hne q rfl
      | [], hl => simp only [List.length_nil] at hl; omega
      | _ :: _ :: _, hl => simp only [List.length_cons] at hl; omega
    rw [dif_neg hn1] at hrun
    exact ⟨_, hrun, us, rfl, hrs⟩
  · cases hc
theorem resF_sound {fn : FnE} {σ : AS} {M : Mem} {a : Act} {r : RV} (R : Rel fn.fn.ntmps X σ M a) (hr : resF P fn σ r) : ∃ u, (results fn.fn a.tmps).run P M.w = .ok u M.w ∧ FinS X M.O r M.w u := by
  cases r with
  | val c =>
    obtain ⟨u, hu, h⟩ := resA_sound R hr
    exact ⟨u, hu, R.heap.kept, h⟩
  | own Q =>
    obtain ⟨c, h, hq, h1, h3, h4⟩ := hr
    obtain ⟨M', e1, e2, e3, e4, hle, HR⟩ := R.heap.less h3 h4
    rcases h1 with h1 | ⟨rfl, h1⟩
    · obtain ⟨u, hu, hv⟩ := resRaw_sound R h1
      exact ⟨u, hu, R.heap.kept, M', c, h, hq, e1, e2, HR, R.inv.le hle, VRel.mono hle _ _ hv⟩
    · obtain ⟨c, hc⟩ := Option.isSome_iff_exists.1 h1
      obtain ⟨u, hu, hv⟩ := resRaw_sound R hc
      exact ⟨u, hu, R.heap.kept, M', _, h, hq, e1, e2, HR, R.inv.le hle, trivial⟩
theorem FinS.fin {O : Nat → Prop} {r : RV} {w' : World} {v : Value} (h : FinS X O r w' v) : Fin X O r w' v := by
  have hS : ∀ b, X.S b → X.fin.S b := fun b h => .inl h
  refine ⟨⟨h.1.os, h.1.tape, h.1.output, h.1.size, fun k hk hn => h.1.block k hk fun hs => hn (hS k hs)⟩, ?_⟩
  cases r with
  | val a => exact h.2
  | own Q =>
    obtain ⟨M', a, h', q1, q2, q3, q4, q5, q6⟩ := h.2
    exact ⟨M', a, h', q1, q2, q3, q4.wide rfl hS, q5, q6⟩
/-- An activation that is left: its mark, if it has one, is taken up. -/
theorem leave_of {fn : FnE} {σ : AS} {M : Mem} {a : Act} {r : RV} (R : Rel fn.fn.ntmps X σ M a) (hr : resF P fn σ r) {fr : Frame} (hm : fr.mode = .returning) (ht : fr.tmps = a.tmps) (hd : fr.defers = a.defers) (hk : fr.kind = .normal)
    (hf : P.funcs[fr.fn]? = some fn.fn) (cs : List Frame) : ∃ v w' fr', Fin X M.O r w' v ∧ Steps P (lone fr cs M.w) (lone fr' cs w') ∧ fr'.fn = fr.fn ∧ fr'.leaving P w' (.returned v) := by
  rcases R.okD with h0 | ⟨D, h0, hS, hw⟩
  · obtain ⟨u, hu, hfin⟩ := resF_sound R hr
    exact ⟨u, M.w, fr, hfin.fin, ⟨0, rfl⟩, rfl, hm, by rw [hd, R.defers, h0], hk, fn.fn, hf, by rw [ht]; exact hu⟩
  · have hDl := block_lt hw
    have hwD : M.w.heap[D]? = some (.deferred (some [])) := by rw [R.heap.kept.block D hDl hS]; exact hw
    have htake := run_takeDeferred (P := P) hwD
    obtain ⟨hle, hT⟩ := R.heap.turn (o' := .deferred none) hwD rfl
    have HR : HRel X.fin σ.h { M with w := M.w.putObj D (.deferred none) } := by
      refine hT X.fin ⟨R.heap.kept.os, R.heap.kept.tape, R.heap.kept.output, by rw [World.putObj_size]; exact R.heap.kept.size, fun k hk2 hn => ?_⟩ R.heap.old fun id hid => (R.heap.own id hid).1.imp (fun h => h) .inl
      have : k ≠ D := by rintro rfl; exact hn (.inr h0)
      rw [World.putObj_heap_other this]
      exact R.heap.kept.block k hk2 fun h => hn (.inl h)
    have R2 : Rel fn.fn.ntmps X.fin σ { M with w := M.w.putObj D (.deferred none) } { a with defers := [] } := ⟨HR, R.size, rfl, .inl rfl, fun t => VRel.mono hle _ _ (R.tm t), R.inv.le hle⟩
    obtain ⟨u, hu, hfin⟩ := resF_sound R2 hr
    have hst := step_collected (P := P) (fr := fr) (cs := cs) (by rw [hm]; intro h; cases h) (by rw [hd, R.defers, h0]) rfl htake
    exact ⟨u, _, _, hfin, .one hst, rfl, hm, rfl, hk, fn.fn, hf, by show (results fn.fn fr.tmps).run P _ = _; rw [ht]; exact hu⟩

theorem GoA.step {fn : FnE} {t1 t2 : List Item} {σ : AS} {r : RV} (h : GoA P fn t2 σ r) (ho : okTodo fn.fn.ntmps fn.ex t1 = true → okTodo fn.fn.ntmps fn.ex t2 = true)
    (hs : ∀ (b : Frame) (a : Act) (cs : List Frame) (w : World), step P (lone (b.at a t1) cs w) = .next (lone (b.at a t2) cs w)) : GoA P fn t1 σ r :=
  fun hok X M a hS R b cs hb hf =>
    let ⟨v, w', fr, h1, h2, h3⟩ := h (ho hok) X M a hS R b cs hb hf
    ⟨v, w', fr, h1, .head (hs b a cs M.w) h2, h3⟩

theorem GoA.ret {fn : FnE} {k : List Item} {σ : AS} {r : RV} (h : resF P fn σ r) : GoA P fn (.code .ret :: k) σ r := by
  intro _ X M a hS R b cs hb hf
  obtain ⟨v, w', fr, h1, h2, h3, h4⟩ := leave_of R h (fr := { b.at a (.code .ret :: k) with mode := .returning }) rfl rfl rfl hb hf cs
  exact ⟨v, w', fr, h1, .head step_ret h2, h3, h4⟩
theorem GoA.done {fn : FnE} {σ : AS} {r : RV} (h : resF P fn σ r) : GoA P fn [] σ r := by
  intro _ X M a hS R b cs hb hf
  obtain ⟨v, w', fr, h1, h2, h3, h4⟩ := leave_of R h (fr := { b.at a [] with mode := .returning }) rfl rfl rfl hb hf cs
  exact ⟨v, w', fr, h1, .head step_end h2, h3, h4⟩
theorem GoA.cond {fn : FnE} {c : Operand} {x y : Code} {k : List Item} {σ : AS} {r : RV} {t : Bool} (hc : σ.ev c = .bool t) (h : GoA P fn (.code (if t then x else y) :: k) σ r) : GoA P fn (.code (.cond c x y) :: k) σ r := by
  intro hok X M a hS R b cs hb hf
  have hv := ev_rel R c
  rw [hc] at hv
  simp only [VRel] at hv
  have ho : okTodo fn.fn.ntmps fn.ex (.code (if t then x else y) :: k) = true := by
    simp only [okTodo, List.all_cons, Bool.and_eq_true, okItem, okCode] at hok ⊢
    exact ⟨by cases t <;> simp [hok.1], hok.2⟩
  obtain ⟨v, w', fr, h1, h2, h3⟩ := h ho X M a hS R b cs hb hf
  exact ⟨v, w', fr, h1, .head (step_cond hv) h2, h3⟩

theorem GoA.region {fn : FnE} {id : Nat} {ops : Array Oper} {draw : Bool} {k : List Item} {σ σ' : AS} {r : RV} (hx : fn.ex.contains id = false) (hm : P.follows .mixedOrders = true) (hs : ASteps P ops.toList (List.range ops.size) σ σ') (h : GoA P fn k σ' r) :
    GoA P fn (.code (.region id ops draw) :: k) σ r := by
  intro hok X M a hS R b cs hb hf
  simp only [okTodo, List.all_cons, Bool.and_eq_true, okItem, okCode, hx, Bool.false_or] at hok
  have W := region_sound (draw := draw) (id := id) hm hok.1 (Q := fun e a' w' => e = .normal ∧ ∃ M', Rel fn.fn.ntmps X σ' M' a' ∧ M'.O = M.O ∧ M'.w = w') hs R (fun M' a' R' hO => ⟨rfl, M', R', hO, rfl⟩)
  obtain ⟨e, a', w', ⟨rfl, M', R', hO, rfl⟩, harr⟩ := W b k cs
  obtain ⟨v, w', fr, h1, h2, h3⟩ := h hok.2 X M' a' hS R' b cs hb hf
  rw [hO] at h1
  exact ⟨v, w', fr, h1, Steps.trans harr h2, h3⟩

/-- A region that has a rule of its own: slots' pairs. -/
theorem GoA.region2 {fn : FnE} {id : Nat} {ops : Array Oper} {k : List Item} {σ σ' : AS} {r : RV} {dyn : List (Tmp × Tmp)} (hm : P.follows .mixedOrders = true) (hok : regionOk2 fn.fn.ntmps ops none dyn = true)
    (hs : ASteps P ops.toList (List.range ops.size) σ σ') (hd : dynOk dyn σ'.tm) (h : GoA P fn k σ' r) : GoA P fn (.code (.region id ops true) :: k) σ r := by
  intro hk X M a hS R b cs hb hf
  simp only [okTodo, List.all_cons, Bool.and_eq_true] at hk
  have W := region_sound2 (id := id) hm hok (Q := fun e a' w' => e = .normal ∧ ∃ M', Rel fn.fn.ntmps X σ' M' a' ∧ M'.O = M.O ∧ M'.w = w') hs hd R (fun M' a' R' hO => ⟨rfl, M', R', hO, rfl⟩)
  obtain ⟨e, a', w', ⟨rfl, M', R', hO, rfl⟩, harr⟩ := W b k cs
  obtain ⟨v, w', fr, h1, h2, h3⟩ := h hk.2 X M' a' hS R' b cs hb hf
  rw [hO] at h1
  exact ⟨v, w', fr, h1, Steps.trans harr h2, h3⟩
/-- A region of which two operations come in two orders. -/
theorem GoA.region3 {fn : FnE} {id : Nat} {ops : Array Oper} {k : List Item} {σ σ0 σ1 σ2 : AS} {r : RV} {q : Nat} (hm : P.follows .mixedOrders = true) (hok : regionOk2 fn.fn.ntmps ops (some q) [] = true) (hla : lastOk ops q = true)
    (hs0 : ASteps P ops.toList (List.range q) σ σ0) (hs1 : ASteps P ops.toList (q :: (q + 1) :: List.range' (q + 2) (ops.size - q - 2)) σ0 σ1) (hs2 : ASteps P ops.toList ((q + 1) :: q :: List.range' (q + 2) (ops.size - q - 2)) σ0 σ2)
    (h : GoA P fn k σ1 r) (h' : GoA P fn k σ2 r) : GoA P fn (.code (.region id ops true) :: k) σ r := by
  intro hk X M a hS R b cs hb hf
  simp only [okTodo, List.all_cons, Bool.and_eq_true] at hk
  have W := region_sound3 (id := id) hm hok hla (Q := fun e a' w' => e = .normal ∧ ∃ M', (Rel fn.fn.ntmps X σ1 M' a' ∨ Rel fn.fn.ntmps X σ2 M' a') ∧ M'.O = M.O ∧ M'.w = w') hs0 hs1 hs2 R
    (fun M' a' R' hO => ⟨rfl, M', .inl R', hO, rfl⟩) (fun M' a' R' hO => ⟨rfl, M', .inr R', hO, rfl⟩)
  obtain ⟨e, a', w', ⟨rfl, M', R', hO, rfl⟩, harr⟩ := W b k cs
  rcases R' with R' | R'
  · obtain ⟨v, w', fr, h1, h2, h3⟩ := h hk.2 X M' a' hS R' b cs hb hf
    rw [hO] at h1
    exact ⟨v, w', fr, h1, Steps.trans harr h2, h3⟩
  · obtain ⟨v, w', fr, h1, h2, h3⟩ := h' hk.2 X M' a' hS R' b cs hb hf
    rw [hO] at h1
    exact ⟨v, w', fr, h1, Steps.trans harr h2, h3⟩
theorem GoA.inLoop {fn : FnE} {c : Code} {k : List Item} {σ : AS} {r : RV} (h : GoA P fn (.code c :: .inLoop c :: k) σ r) : GoA P fn (.inLoop c :: k) σ r :=
  h.step (fun ho => by simp only [okTodo, List.all_cons, Bool.and_eq_true, okItem] at ho ⊢; exact ⟨ho.1, ho.1, ho.2⟩) (fun _ _ _ _ => step_inLoop)
theorem GoA.loop {fn : FnE} {c : Code} {k : List Item} {σ : AS} {r : RV} (h : GoA P fn (.inLoop c :: k) σ r) : GoA P fn (.code (.loop c) :: k) σ r := by
  -- one step into the loop is the step that 'inLoop' takes
  intro hok X M a hS R b cs hb hf
  have ho : okTodo fn.fn.ntmps fn.ex (.inLoop c :: k) = true := by simpa [okTodo, okItem, okCode] using hok
  obtain ⟨v, w', fr, h1, ⟨n, hn⟩, h3⟩ := h ho X M a hS R b cs hb hf
  cases n with
  | zero =>
    simp only [runN] at hn
    have : fr = b.at a (.inLoop c :: k) := by
      injection hn with hn
      have := congrArg (fun (m : Machine) => (m.gs[0]?).map (·.frame)) hn
      simpa [lone] using this.symm
    subst this
    have := h3.2.1
    simp [Frame.at] at this
  | succ n =>
    rw [runN, step_inLoop] at hn
    exact ⟨v, w', fr, h1, .head step_loop ⟨n, hn⟩, h3⟩

/-! ### The conditions of a run, by reckoning -/
def bindV {α : Type} (o : Option α) (K : α → Prop) : Prop :=
  match o with
  | some a => K a
  | none => False
def boolV (o : AV) (x y : Prop) : Prop :=
  match o with
  | .bool b => (b = true → x) ∧ (b = false → y)
  | _ => False
def guardV (o : Option Bool) (x y : Prop) : Prop :=
  match o with
  | some b => (b = true → x) ∧ (b = false → y)
  | none => False
/-- Whether callees may write the caller's blocks; the loop whose yield may be called. -/
inductive PC where
  | no
  | yes (lp : Option LoopI)
def pcOf (d : Bool) (lp : Option LoopI) : PC := if d then .no else .yes lp
/-- A call: its answer by a contract. -/
def CallV (P : Program) (pc : PC) (f : AV) (args : List AV) (h : HP) (K : AV → HP → Prop) : Prop :=
  (∃ g first caps, f = .fn (.func g) first caps ∧ Callable P g ∧ ((∃ r, CallOk P g (first ++ args ++ caps) h r ∧ K r h) ∨
    (∃ lp, pc = .yes lp ∧ ∃ R, PSpec P g (first ++ args ++ caps) h R ∧ ∀ r h', h.nt ≤ h'.nt → R r h' → K r h'))) ∨
  (∃ L, pc = .yes (some L) ∧ f = .fn (.yield L.l) [] [] ∧ ∃ R, YSpec P L args h R ∧ ∀ h', h.nt ≤ h'.nt → R h' → K (.bool true) h')

def execV (P : Program) (pc : PC) (o : Oper) (σ : AS) (K : AS → Prop) : Prop :=
  match o.op with
  | .call { callee := .value f, args, .. } => CallV P pc (σ.ev f) (args.toList.map σ.ev) σ.h fun r h' => K ((AS.mk σ.tm h').put o.dst r)
  | op => bindV (exec P op σ.ev σ.h) fun x => K ((AS.mk σ.tm x.2).put o.dst x.1)
def opsV (P : Program) (pc : PC) (L : List Oper) : List Oper → AS → (AS → Prop) → Prop
  | [], σ, K => K σ
  | o :: os, σ, K => guardV (guardA L o σ.tm) (execV P pc o σ fun σ' => opsV P pc L os σ' K) (opsV P pc L os (σ.put o.dst (.tup [])) K)

def vc (P : Program) (fn : FnE) : Nat → List Item → AS → RV → Prop
  | 0, todo, σ, r => GoA P fn todo σ r
  | _ + 1, [], σ, r => resF P fn σ r
  | n + 1, x :: k, σ, r => match x with
    | .inBlock _ | .inScope _ => vc P fn n k σ r
    | .inLoop body => GoA P fn (.inLoop body :: k) σ r
    | .code c => match c with
      | .ret => resF P fn σ r
      | .skip | .label _ => vc P fn n k σ r
      | .seq a b => vc P fn n (.code a :: .code b :: k) σ r
      | .cond c x y => boolV (σ.ev c) (vc P fn n (.code x :: k) σ r) (vc P fn n (.code y :: k) σ r)
      | .block id body => vc P fn n (.code body :: .inBlock id :: k) σ r
      | .loop body => GoA P fn (.inLoop body :: k) σ r
      | .scope body => vc P fn n (.code body :: .inScope body :: k) σ r
      | .exit id => bindV (exitTo id k) fun k' => vc P fn n k' σ r
      | .goto l => bindV (gotoIn l k) fun k' => GoA P fn k' σ r
      | .region id ops d => if fn.ex.contains id = true then GoA P fn (.code (.region id ops d) :: k) σ r else opsV P (pcOf d fn.lp) ops.toList ops.toList σ fun σ' => vc P fn n k σ' r
      | .rangeFunc g ps x y => GoA P fn (.code (.rangeFunc g ps x y) :: k) σ r
      | .refuse _ => False
    | _ => False

theorem opsV_soundL (L : List Oper) : ∀ (il : List Nat) (os : List Oper), il.map (fun i => L[i]?) = os.map some → ∀ (σ : AS) (K : AS → Prop), opsV P .no L os σ K → ∃ σ', ASteps P L il σ σ' ∧ K σ' := by
  intro il
  induction il with
  | nil =>
    intro os he σ K h
    cases os with
    | nil => exact ⟨σ, rfl, h⟩
    | cons o os => simp at he
  | cons n il ih =>
    intro os he σ K h
    cases os with
    | nil => simp at he
    | cons o os =>
    simp only [List.map_cons, List.cons.injEq] at he
    obtain ⟨hget, he⟩ := he
    simp only [opsV] at h
    cases hg : guardA L o σ.tm with
    | none => simp [hg, guardV] at h
    | some b =>
      simp only [hg, guardV] at h
      cases b
      · obtain ⟨σ', h1, h2⟩ := ih os he _ K (h.2 rfl)
        exact ⟨σ', ⟨_, by simp only [AStep, hget, hg], h1⟩, h2⟩
      · have hx := h.1 rfl
        unfold execV at hx
        split at hx
        · rename_i f args ts hop
          rcases hx with ⟨g, first, caps, h1, ⟨fn, q1, q2, q3⟩, ⟨r, h3, h4⟩ | ⟨_, hpc, _⟩⟩ | ⟨_, hpc, _⟩
          case inl.inr => cases hpc
          case inr => cases hpc
          obtain ⟨σ', p1, p2⟩ := ih os he _ K h4
          refine ⟨σ', ⟨σ.put o.dst r, ?_, p1⟩, p2⟩
          simp only [AStep, hget, hg, AExec, hop]
          exact ⟨g, first, caps, r, fn, q1, q2, q3, h1, h3, rfl⟩
        · rename_i op hne
          cases he2 : exec P o.op σ.ev σ.h with
          | none => simp [he2, bindV] at hx
          | some vh =>
            simp only [he2, bindV] at hx
            obtain ⟨σ', p1, p2⟩ := ih os he _ K hx
            refine ⟨σ', ⟨_, ?_, p1⟩, p2⟩
            simp only [AStep, hget, hg]
            unfold AExec
            obtain ⟨dst, op, ty, pos, aft, gd⟩ := o
            cases op <;> try exact ⟨vh.1, vh.2, he2, rfl⟩
            rename_i c
            obtain ⟨callee, args, ts⟩ := c
            cases callee <;> try exact ⟨vh.1, vh.2, he2, rfl⟩
            exact (hne _ _ _ rfl).elim
theorem opsR_sound {N : Nat} {ops : Array Oper} {lp : Option LoopI} (hd : dstOk N ops = true) : ∀ (il : List Nat) (os : List Oper), il.map (fun i => ops.toList[i]?) = os.map some →
    ∀ (σ : AS) (K : AS → Prop) (M : Mem) (a : Act), X.okL lp → opsV P (.yes lp) ops.toList os σ K → Rel N X σ M a → ∀ (b : Frame) (k : List Item) (cs : List Frame), b.kind = .normal →
      ∃ σ' M' a', K σ' ∧ Rel N X σ' M' a' ∧ M.le M' ∧ M'.O = M.O ∧ Steps P (lone (b.atR a (.inRegion ops il :: k)) cs M.w) (lone (b.atR a' k) cs M'.w) := by
  intro il
  induction il with
  | nil =>
    intro os he σ K M a hX h R b k cs hb
    cases os with
    | nil => exact ⟨σ, M, a, h, R, Mem.le.refl M, rfl, .one stepR_region_end⟩
    | cons o os => simp at he
  | cons n il ih =>
    intro os he σ K M a hX h R b k cs hb
    cases os with
    | nil => simp at he
    | cons o os =>
    simp only [List.map_cons, List.cons.injEq] at he
    obtain ⟨hget, he⟩ := he
    have hget' : ops[n]? = some o := by simpa using hget
    have hdd : ∀ d, o.dst = some d → d < N := fun d h => dstOk_spec hd n o d hget' h
    have hfin : ∀ v, (b.atR a (.inRegion ops (n :: il) :: k)).finish v = b.atR (a.put o.dst v) (.inRegion ops il :: k) := by
      intro v; rw [Frame.finish_atR, hget']; rfl
    simp only [opsV] at h
    cases hg : guardA ops.toList o σ.tm with
    | none => simp [hg, guardV] at h
    | some t =>
      simp only [hg, guardV] at h
      have hw := wanted_rel R hg
      cases t
      · have R2 : Rel N X (σ.put o.dst (.tup [])) M (a.put o.dst undef) := put_rel R (Mem.le.refl M) R.heap hdd (u := undef) ⟨[], rfl, rfl⟩
        obtain ⟨σ', M', a', q1, q2, q3, q4, q5⟩ := ih os he _ K M _ hX (h.2 rfl) R2 b k cs hb
        have hs := stepR_op_skip (P := P) (b := b) (a := a) (k := k) (cs := cs) (w := M.w) (ops := ops) (i := n) (rest := il) (by simp [hget', hw])
        simp only [hget', Option.bind_some] at hs
        exact ⟨σ', M', a', q1, q2, q3, q4, .head hs q5⟩
      · have hx := h.1 rfl
        -- an operation that leaves a value, or nothing
        have value : ∀ (M1 : Mem) (v : AV) (u : Value) (h1 : HP), (∀ c, o.op ≠ .defer c) → (((execOp a.eval o).run P M.w = .ok (.value u) M1.w) ∨ ((execOp a.eval o).run P M.w = .ok .skip M1.w ∧ u = undef)) → M.le M1 → M1.O = M.O → HRel X h1 M1 → VRel M1 true v u →
            opsV P (.yes lp) ops.toList os ((AS.mk σ.tm h1).put o.dst v) K → ∃ σ' M' a', K σ' ∧ Rel N X σ' M' a' ∧ M.le M' ∧ M'.O = M.O ∧ Steps P (lone (b.atR a (.inRegion ops (n :: il) :: k)) cs M.w) (lone (b.atR a' k) cs M'.w) := by
          intro M1 v u h1 hnd hrun hle hO hH hr hK
          have R2 : Rel N X ((AS.mk σ.tm h1).put o.dst v) M1 (a.put o.dst u) := put_rel R hle hH hdd hr
          obtain ⟨σ', M', a', q1, q2, q3, q4, q5⟩ := ih os he _ K M1 _ hX hK R2 b k cs hb
          have hgo := stepGR_op (P := P) (b := b) (k := k) (cs := cs) (w := M.w) (rest := il) hget' hw
          rw [Oper.semAt_eq _ _ _ hnd] at hgo
          refine ⟨σ', M', a', q1, q2, hle.trans q3, q4.trans hO, .head (step_lone_go ?_) q5⟩
          rcases hrun with hrun | ⟨hrun, rfl⟩
          · rw [hgo, ← hfin]; simp [stepG.apply, hrun]
          · rw [hgo, ← hfin]; simp [stepG.apply, hrun]
        -- a call
        have call : ∀ (g : FuncId) (vs : List Value) (R' : Value → World → Prop), (execOp a.eval o).run P M.w = .ok (.enter g ⟨vs⟩) M.w → (∀ c, o.op ≠ .defer c) →
            Calls P g ⟨vs⟩ M.w (fun e w' => ∃ v, e = .returned v ∧ R' v w') → (∀ v w', R' v w' → ∃ M1 r h1, M1.w = w' ∧ M.le M1 ∧ M1.O = M.O ∧ HRel X h1 M1 ∧ VRel M1 true r v ∧ opsV P (.yes lp) ops.toList os ((AS.mk σ.tm h1).put o.dst r) K) →
            ∃ σ' M' a', K σ' ∧ Rel N X σ' M' a' ∧ M.le M' ∧ M'.O = M.O ∧ Steps P (lone (b.atR a (.inRegion ops (n :: il) :: k)) cs M.w) (lone (b.atR a' k) cs M'.w) := by
          intro g vs R' hex hnd hcall hK
          have hgo := stepGR_op (P := P) (b := b) (k := k) (cs := cs) (w := M.w) (rest := il) hget' hw
          rw [Oper.semAt_eq _ _ _ hnd] at hgo
          obtain ⟨e, w', fr, ⟨v, rfl, hR'⟩, hsteps, _, hleave⟩ := hcall (b.atR a (.inRegion ops (n :: il) :: k) :: cs)
          obtain ⟨M1, r, h1, rfl, hle, hO, hH, hr, hV⟩ := hK v w' hR'
          have henter : step P (lone (b.atR a (.inRegion ops (n :: il) :: k)) cs M.w) = .next (lone (Frame.enter P g ⟨vs⟩ .normal) (b.atR a (.inRegion ops (n :: il) :: k) :: cs) M.w) :=
            step_lone_go (by rw [hgo]; simp [stepG.apply, hex, Frame.atR])
          have R2 : Rel N X ((AS.mk σ.tm h1).put o.dst r) M1 (a.put o.dst v) := put_rel R hle hH hdd hr
          obtain ⟨σ', M', a', q1, q2, q3, q4, q5⟩ := ih os he _ K M1 _ hX hV R2 b k cs hb
          have hl := step_leave_returned (c := b.atR a (.inRegion ops (n :: il) :: k)) (cs := cs) hleave
          rw [hfin] at hl
          exact ⟨σ', M', a', q1, q2, hle.trans q3, q4.trans hO, .head henter (Steps.trans hsteps (.head hl q5))⟩
        unfold execV at hx
        split at hx
        · rename_i f args ts hop
          have hnd : ∀ c, o.op ≠ .defer c := by rw [hop]; intro c hc; cases hc
          have hfr := ev_rel R f
          have hargs : VRels M true (args.toList.map σ.ev) (args.toList.map a.eval) := by
            generalize args.toList = l
            induction l with
            | nil => rfl
            | cons x l ih => exact ⟨_, _, rfl, ev_rel R x, ih⟩
          rcases hx with ⟨g, first, caps, hf, ⟨fn, q1, q2, q3⟩, hc⟩ | ⟨L, hpc, hf, Q, hY, hK⟩
          · rw [hf] at hfr
            obtain ⟨lf, lc, hfv, h1, h2⟩ := hfr
            have hex : (execOp a.eval o).run P M.w = .ok (.enter g ⟨lf ++ args.toList.map a.eval ++ lc⟩) M.w := by
              have e1 : (⟨lf⟩ ++ Array.map a.eval args ++ ⟨lc⟩ : Array Value) = ⟨lf ++ args.toList.map a.eval ++ lc⟩ := by
                apply Array.ext'; simp
              simp only [execOp, hop, Sem.run_bind, resolve, hfv, Deferred.ofValue, Sem.run_pure, Result.andThen_ok, invoke, callFunc, run_program, q1, Sem.run_ite, q3]
              simp [q2, e1]
            have hvs := VRels.append (VRels.append h1 hargs) h2
            rcases hc with ⟨r, hc, hK⟩ | ⟨lp', hpc, Q, hP, hK⟩
            · refine call g _ (fun v w' => Ext M.w w' ∧ VRel { M with w := w' } true r v) hex hnd ((callOk_sound R.heap hc hvs).mono fun e w' h => h) ?_
              rintro v w' ⟨hx, hr⟩
              have HE := R.heap.ext hx
              exact ⟨{ M with w := w' }, r, σ.h, rfl, HE.1, rfl, HE.2, hr, hK⟩
            · refine call g _ (fun v w' => ∃ M' r h', M'.w = w' ∧ M'.O = M.O ∧ M.le M' ∧ Q r h' ∧ HRel X h' M' ∧ VRel M' true r v) hex hnd ((hP.2 X M _ trivial R.heap hvs).mono ?_) ?_
              · rintro e w' ⟨v, M', r, h', he, h1⟩; exact ⟨v, he, M', r, h', h1⟩
              · rintro v w' ⟨M', r, h', e1, e2, e3, e4, e5, e6⟩
                exact ⟨M', r, h', e1, e3, e2, e5, e6, hK r h' (by rw [← e5.n, ← R.heap.n]; exact e3.n) e4⟩
          · cases hpc
            rw [hf] at hfr
            obtain ⟨lf, lc, hfv, h1, h2⟩ := hfr
            cases h1
            cases h2
            obtain ⟨f', tmps, assign, body, hy, hR⟩ := hY X M _ hX R.heap R.inv hargs
            have hex : (execOp a.eval o).run P M.w = .ok (.round L.l f' tmps assign body) M.w := by
              have e1 : (⟨[]⟩ ++ Array.map a.eval args : Array Value) = ⟨args.toList.map a.eval⟩ := by
                apply Array.ext'; simp
              simp only [execOp, hop, Sem.run_bind, resolve, hfv, Deferred.ofValue, Sem.run_pure, Result.andThen_ok, invoke, e1, hy]
            have hgo := stepGR_op (P := P) (b := b) (k := k) (cs := cs) (w := M.w) (rest := il) hget' hw
            rw [Oper.semAt_eq _ _ _ hnd] at hgo
            obtain ⟨M1, h1, hq, hH, hle, hO, hst⟩ := hR (b.atR a (.inRegion ops (n :: il) :: k)) cs
            rw [hfin] at hst
            have henter : step P (lone (b.atR a (.inRegion ops (n :: il) :: k)) cs M.w) = .next (lone (Frame.round L.l f' tmps assign body .normal) (b.atR a (.inRegion ops (n :: il) :: k) :: cs) M.w) :=
              step_lone_go (by rw [hgo]; simp [stepG.apply, hex, Frame.atR])
            have R2 : Rel N X ((AS.mk σ.tm h1).put o.dst (.bool true)) M1 (a.put o.dst (.bool true)) := put_rel R hle hH hdd rfl
            obtain ⟨σ', M', a', q1, q2, q3, q4, q5⟩ := ih os he _ K M1 _ hX (hK h1 (by rw [← hH.n, ← R.heap.n]; exact hle.n) hq) R2 b k cs hb
            exact ⟨σ', M', a', q1, q2, hle.trans q3, q4.trans hO, .head henter (Steps.trans hst q5)⟩
        · rename_i op hne
          cases he2 : exec P o.op σ.ev σ.h with
          | none => simp [he2, bindV] at hx
          | some vh =>
            simp only [he2, bindV] at hx
            have hnd : ∀ c, o.op ≠ .defer c := by intro c hc; rw [hc] at he2; simp [exec] at he2
            obtain ⟨M1, nx, e1, e2, e3, e4, e5⟩ := exec_sound R.heap o (fun x => ev_rel R x) (v := vh.1) (h' := vh.2) he2
            cases nx <;> simp only [NextRel] at e5
            · rename_i u
              exact value M1 vh.1 u vh.2 hnd (.inl e1) e2 e3 e4 e5 hx
            · refine value M1 vh.1 undef vh.2 hnd (.inr ⟨e1, rfl⟩) e2 e3 e4 ?_ hx
              rw [e5]; exact trivial
theorem opsV_mono {pc : PC} {L : List Oper} {K K' : AS → Prop} (hK : ∀ σ', K σ' → K' σ') : ∀ (os : List Oper) (σ : AS), opsV P pc L os σ K → opsV P pc L os σ K'
  | [], σ, h => hK σ h
  | o :: os, σ, h => by
    simp only [opsV] at h ⊢
    cases hg : guardA L o σ.tm with
    | none => simp [hg, guardV] at h
    | some b =>
      simp only [hg, guardV] at h ⊢
      refine ⟨fun hb => ?_, fun hb => opsV_mono hK os _ (h.2 hb)⟩
      have h1 := h.1 hb
      unfold execV at h1 ⊢
      split
      · rename_i f args ts hop
        rw [hop] at h1
        simp only at h1
        rcases h1 with ⟨g, first, caps, e1, e2, ⟨r, e3, e4⟩ | ⟨lp, e3, R, e4, e5⟩⟩ | ⟨L, e1, e2, R, e4, e5⟩
        · exact .inl ⟨g, first, caps, e1, e2, .inl ⟨r, e3, opsV_mono hK os _ e4⟩⟩
        · exact .inl ⟨g, first, caps, e1, e2, .inr ⟨lp, e3, R, e4, fun r h' hn hr => opsV_mono hK os _ (e5 r h' hn hr)⟩⟩
        · exact .inr ⟨L, e1, e2, R, e4, fun h' hn hr => opsV_mono hK os _ (e5 h' hn hr)⟩
      · rename_i op hne
        split at h1
        · rename_i f args ts hop
          exact (hne _ _ _ hop).elim
        · cases he : exec P o.op σ.ev σ.h with
          | none => simp [he, bindV] at h1
          | some x =>
            simp only [he, bindV] at h1 ⊢
            exact opsV_mono hK os _ h1
theorem idx_range' (L : List Oper) (n : Nat) : (List.range' n (L.length - n)).map (fun i => L[i]?) = (L.drop n).map some := by
  apply List.ext_getElem?
  intro j
  simp only [List.getElem?_map, List.getElem?_drop]
  by_cases hj : j < L.length - n
  · rw [List.getElem?_range' hj]
    have : n + j < L.length := by omega
    simp [List.getElem?_eq_getElem this]
  · rw [List.getElem?_eq_none (l := List.range' n (L.length - n)) (by simp; omega), List.getElem?_eq_none (l := L) (by omega)]
    rfl
theorem idx_range (L : List Oper) {q : Nat} (hq : q ≤ L.length) : (List.range q).map (fun i => L[i]?) = (L.take q).map some := by
  apply List.ext_getElem?
  intro j
  simp only [List.getElem?_map, List.getElem?_take]
  by_cases hj : j < q
  · rw [List.getElem?_range hj]
    have : j < L.length := by omega
    simp [List.getElem?_eq_getElem this, hj]
  · rw [List.getElem?_eq_none (l := List.range q) (by simp; omega)]
    simp [hj]
theorem opsV_sound (L : List Oper) (n : Nat) (σ : AS) (K : AS → Prop) (h : opsV P .no L (L.drop n) σ K) : ∃ σ', ASteps P L (List.range' n (L.length - n)) σ σ' ∧ K σ' :=
  opsV_soundL L _ _ (idx_range' L n) σ K h

theorem at_atR (b : Frame) (a : Act) (todo : List Item) : b.at a todo = ({ b with roundOf := none } : Frame).atR a todo := by simp [Frame.at, Frame.atR]
theorem GoA.regionB {fn : FnE} {id : Nat} {ops : Array Oper} {k : List Item} {σ : AS} {r : RV} (hx : fn.ex.contains id = false) (h : opsV P (.yes fn.lp) ops.toList ops.toList σ fun σ' => GoA P fn k σ' r) :
    GoA P fn (.code (.region id ops false) :: k) σ r := by
  intro hok X M a hS R b cs hb hf
  simp only [okTodo, List.all_cons, Bool.and_eq_true, okItem, okCode, hx, Bool.false_or, regOkD, Bool.false_eq_true, if_false] at hok
  have hidx : (List.range ops.size).map (fun i => ops.toList[i]?) = ops.toList.map some := by
    have := idx_range' ops.toList 0
    simpa [List.range_eq_range'] using this
  obtain ⟨σ', M', a', q1, q2, q3, q4, q5⟩ := opsR_sound hok.1 _ _ hidx σ _ M a hS.2.1 h R { b with roundOf := none } k cs hb
  rw [← at_atR] at q5
  obtain ⟨v, w', fr, h1, h2, h3⟩ := q1 hok.2 X M' a' hS q2 b cs hb hf
  rw [q4] at h1
  exact ⟨v, w', fr, h1, .head step_region (Steps.trans (by rw [at_atR b a]; exact q5) h2), h3⟩

theorem vc_sound (hm : P.follows .mixedOrders = true) {fn : FnE} : ∀ (n : Nat) (todo : List Item) (σ : AS) (r : RV), vc P fn n todo σ r → GoA P fn todo σ r
  | 0, _, _, _, h => h
  | n + 1, [], _, _, h => GoA.done h
  | n + 1, x :: k, σ, r, h => by
    have ih := vc_sound hm (fn := fn) n
    cases x <;> simp only [vc] at h
    case code c =>
      cases c <;> simp only at h
      case skip => exact (ih _ _ _ h).step (fun ho => by simp only [okTodo, List.all_cons, Bool.and_eq_true] at ho ⊢; exact ho.2) (fun _ _ _ _ => step_skip)
      case label => exact (ih _ _ _ h).step (fun ho => by simp only [okTodo, List.all_cons, Bool.and_eq_true] at ho ⊢; exact ho.2) (fun _ _ _ _ => step_label)
      case region id ops draw =>
        cases hx : fn.ex.contains id with
        | true => rw [if_pos hx] at h; exact h
        | false =>
        rw [if_neg (by rw [hx]; decide)] at h
        cases draw with
        | true =>
          have h' : opsV P .no ops.toList (ops.toList.drop 0) σ (fun σ' => vc P fn n k σ' r) := h
          obtain ⟨σ', h1, h2⟩ := opsV_sound ops.toList 0 σ _ h'
          refine GoA.region hx hm (σ' := σ') ?_ (ih _ _ _ h2)
          rw [List.range_eq_range']
          simpa using h1
        | false =>
          exact GoA.regionB hx (opsV_mono (fun σ' hv => ih _ _ _ hv) _ _ h)
      case seq a b => exact (ih _ _ _ h).step (fun ho => by simp only [okTodo, List.all_cons, Bool.and_eq_true, okItem, okCode] at ho ⊢; exact ⟨ho.1.1, ho.1.2, ho.2⟩) (fun _ _ _ _ => step_seq)
      case cond c x y =>
        cases hc : σ.ev c <;> simp only [hc, boolV] at h
        rename_i t
        refine GoA.cond hc ?_
        cases t
        · exact ih _ _ _ (h.2 rfl)
        · exact ih _ _ _ (h.1 rfl)
      case block id body => exact (ih _ _ _ h).step (fun ho => by simp only [okTodo, List.all_cons, Bool.and_eq_true, okItem, okCode] at ho ⊢; exact ⟨ho.1, trivial, ho.2⟩) (fun _ _ _ _ => step_block)
      case loop body => exact GoA.loop h
      case exit id =>
        cases he : exitTo id k with
        | none => simp [he, bindV] at h
        | some k' =>
          simp only [he, bindV] at h
          exact (ih _ _ _ h).step (fun ho => by simp only [okTodo, List.all_cons, Bool.and_eq_true] at ho; exact ok_exitTo ho.2 he) (fun _ _ _ _ => step_exit he)
      case scope body => exact (ih _ _ _ h).step (fun ho => by simp only [okTodo, List.all_cons, Bool.and_eq_true, okItem, okCode] at ho ⊢; exact ⟨ho.1, ho.1, ho.2⟩) (fun b a cs w => step_lone_go (by simp [stepG, stepG.exec, Frame.at]))
      case goto l =>
        cases he : gotoIn l k with
        | none => simp [he, bindV] at h
        | some k' =>
          simp only [he, bindV] at h
          exact GoA.step h (fun ho => by simp only [okTodo, List.all_cons, Bool.and_eq_true] at ho; exact ok_gotoIn ho.2 he) (fun _ _ _ _ => step_goto he)
      case ret => exact GoA.ret h
      case rangeFunc g ps x y => exact h
    case inBlock id => exact (ih _ _ _ h).step (fun ho => by simp only [okTodo, List.all_cons, Bool.and_eq_true] at ho ⊢; exact ho.2) (fun _ _ _ _ => step_inBlock)
    case inLoop body => exact h
    case inScope body => exact (ih _ _ _ h).step (fun ho => by simp only [okTodo, List.all_cons, Bool.and_eq_true] at ho ⊢; exact ho.2) (fun b a cs w => step_lone_go (by simp [stepG, stepG.exec, Frame.at]))

theorem go_region2 {fn : FnE} {id : Nat} {L : List Oper} {k : List Item} {σ : AS} {r : RV} (dyn : List (Tmp × Tmp)) (hm : P.follows .mixedOrders = true) (hok : regionOk2 fn.fn.ntmps L.toArray none dyn = true)
    (h : opsV P .no L L σ fun σ' => dynOk dyn σ'.tm ∧ GoA P fn k σ' r) : GoA P fn (.code (.region id L.toArray true) :: k) σ r := by
  obtain ⟨σ', h1, h2, h3⟩ := opsV_sound L 0 σ _ h
  refine GoA.region2 hm hok (σ' := σ') ?_ h2 h3
  rw [List.range_eq_range']
  simpa using h1
theorem go_region3 {fn : FnE} {id : Nat} {L : List Oper} {k : List Item} {σ : AS} {r : RV} (q : Nat) {o o' : Oper} {os2 : List Oper} (hm : P.follows .mixedOrders = true) (hok : regionOk2 fn.fn.ntmps L.toArray (some q) [] = true)
    (hla : lastOk L.toArray q = true) (hL : L.drop q = o :: o' :: os2)
    (h : opsV P .no L (L.take q) σ fun σ0 => opsV P .no L (o :: o' :: os2) σ0 (fun σ' => GoA P fn k σ' r) ∧ opsV P .no L (o' :: o :: os2) σ0 (fun σ' => GoA P fn k σ' r)) : GoA P fn (.code (.region id L.toArray true) :: k) σ r := by
  have hlen : q + 1 < L.length := by
    have := congrArg List.length hL
    simp at this
    omega
  have g0 : L[q]? = some o := by
    have := congrArg (fun l : List Oper => l[0]?) hL
    simpa using this
  have g1 : L[q + 1]? = some o' := by
    have := congrArg (fun l : List Oper => l[1]?) hL
    simpa using this
  have g2 : (List.range' (q + 2) (L.length - q - 2)).map (fun i => L[i]?) = os2.map some := by
    have := idx_range' L (q + 2)
    rw [show L.length - (q + 2) = L.length - q - 2 by omega] at this
    rw [this]
    congr 1
    rw [show q + 2 = q + 2 from rfl, ← List.drop_drop, hL]
    rfl
  obtain ⟨σ0, h0, ha, hb⟩ := opsV_soundL L _ _ (idx_range L (by omega : q ≤ L.length)) σ _ h
  obtain ⟨σ1, h1, k1⟩ := opsV_soundL L (q :: (q + 1) :: List.range' (q + 2) (L.length - q - 2)) _ (by simp only [List.map_cons, g0, g1, g2]) σ0 _ ha
  obtain ⟨σ2, h2, k2⟩ := opsV_soundL L ((q + 1) :: q :: List.range' (q + 2) (L.length - q - 2)) _ (by simp only [List.map_cons, g0, g1, g2]) σ0 _ hb
  exact GoA.region3 hm hok hla h0 (by simpa using h1) (by simpa using h2) k1 k2
end Go.Am

/-! 'Am', part 18: from a run to a contract; forgetting at a loop's head. -/
namespace Go.Am
variable {P : Program} {X : Ctx}

def iniT (args : List AV) (t : Nat) : AV := (args[t]?).getD .dead
def noBk : Nat → Option Blk := fun _ => none
def ini (args : List AV) : AS := ⟨iniT args, ⟨noBk, 0⟩⟩
theorem iniT_zero {a : AV} {l : List AV} : iniT (a :: l) 0 = a := rfl
theorem iniT_succ {a : AV} {l : List AV} {n : Nat} : iniT (a :: l) (n + 1) = iniT l n := rfl

theorem ASpec.intro {f : FuncId} {fn : Func} {c : Code} {args : List AV} {r : AV} (n : Nat) (hf : P.funcs[f]? = some fn) (hb : fn.body = some c) (hnm : fn.name ≠ "runtime.NumGoroutine") (hm : P.follows .mixedOrders = true)
    (ex : List Nat) (hok : okCode fn.ntmps ex c = true) (hlen : args.length ≤ fn.ntmps) (h : vc P ⟨fn, ex, 0, none, false⟩ n [.code c] (ini args) (.val r)) : ASpec P f args r := by
  refine ⟨⟨fn, hf, hnm, by rw [hb]; rfl⟩, fun O w vs hO hv cs => ?_⟩
  have hvl := hv.length
  let b : Frame := { (default : Frame) with fn := f, kind := .normal }
  have henter : Frame.enter P f ⟨vs⟩ .normal = b.at { tmps := ⟨vs⟩ ++ Array.replicate (fn.ntmps - (⟨vs⟩ : Array Value).size) undef, defers := [] } [.code c] := by
    simp [Frame.enter, Frame.at, hf, hb, b]
  have G := vc_sound hm n _ _ _ h
  have R : Rel fn.ntmps ⟨w, fun _ => False, 0, Mem.callee O w, []⟩ (ini args) (Mem.callee O w) { tmps := ⟨vs⟩ ++ Array.replicate (fn.ntmps - (⟨vs⟩ : Array Value).size) undef, defers := [] } := by
    refine ⟨⟨rfl, fun id => ⟨fun h => h.elim, fun h => by simp [ini, noBk] at h⟩, fun id h => h.elim, fun id k hk => by simp [ini, noBk] at hk, fun _ _ h => h.elim,
      ⟨rfl, rfl, rfl, Nat.le_refl _, fun _ _ _ => rfl⟩, hO, fun id h => h.elim⟩, ?_, rfl, ?_, fun t => ?_, Nat.le_refl _, fun id h => absurd h (Nat.not_lt_zero _)⟩
    · simp; omega
    · exact .inl rfl
    · simp only [ini, iniT]
      cases ht : args[t]? with
      | none => exact trivial
      | some a =>
        obtain ⟨v, hv1, hr⟩ := hv.get t a ht
        have hlt : t < vs.length := (List.getElem?_eq_some_iff.1 hv1).1
        have : (⟨vs⟩ ++ Array.replicate (fn.ntmps - (⟨vs⟩ : Array Value).size) undef : Array Value).getD t undef = v := by
          rw [Array.getD_eq_getD_getElem?, Array.getElem?_append_left (by simpa using hlt)]
          simp [hv1]
        rw [this]
        exact VRel.flag _ _ hr
  have hok' : okTodo fn.ntmps ex [.code c] = true := by simpa [okTodo, okItem] using hok
  obtain ⟨v, w', fr, ⟨hk, hr⟩, hs, h3, h4⟩ := G hok' ⟨w, fun _ => False, 0, Mem.callee O w, []⟩ (Mem.callee O w) _ ⟨rfl, trivial, fun _ => rfl⟩ R b cs rfl (by simpa [b] using hf)
  rw [← henter] at hs
  exact ⟨.returned v, w', fr, ⟨v, rfl, ⟨hk.os, hk.tape, hk.output, hk.size, fun k hkk => hk.block k hkk (fun h => by rcases h with h | h; exact h; cases h)⟩, hr⟩, hs, h3, h4⟩

/-! ### Forgetting -/
mutual
def ren (ρ : Nat → Nat) : AV → AV
  | .ptr id off => .ptr (ρ id) off
  | .sl id off es n => .sl (ρ id) off es n
  | .agg cs => .agg (rens ρ cs)
  | .tup cs => .tup (rens ρ cs)
  | .fn f a b => .fn f (rens ρ a) (rens ρ b)
  | .int k n => .int k n | .bool b => .bool b | .str s => .str s | .exact v => .exact v | .ro n cs => .ro n cs | .rp cs => .rp cs | .nils => .nils | .dead => .dead
def rens (ρ : Nat → Nat) : List AV → List AV
  | [] => []
  | c :: cs => ren ρ c :: rens ρ cs
end
mutual
def refsLt (n : Nat) : AV → Bool
  | .ptr id _ => decide (id < n)
  | .sl id _ _ _ => decide (id < n)
  | .agg cs => refsLts n cs
  | .tup cs => refsLts n cs
  | .fn _ a b => refsLts n a && refsLts n b
  | .int _ _ | .bool _ | .str _ | .exact _ | .ro _ _ | .rp _ | .nils | .dead => true
def refsLts (n : Nat) : List AV → Bool
  | [] => true
  | c :: cs => refsLt n c && refsLts n cs
end

structure Ren (M M' : Mem) (ρ : Nat → Nat) : Prop where
  w : M'.w = M.w
  D : ∀ id, M'.D id → M.D (ρ id) ∧ M'.φ id = M.φ (ρ id)
  free : ∀ b, M.free b → M'.free b

mutual
theorem VRel.ren {M M' : Mem} {ρ : Nat → Nat} (hs : Ren M M' ρ) {r : Bool} : ∀ (a : AV) (v : Value), refsLt M'.n a = true → VRel M r (ren ρ a) v → VRel M' r a v
  | .int _ _, _, _, H | .bool _, _, _, H | .str _, _, _, H | .exact _, _, _, H | .nils, _, _, H | .dead, _, _, H => H
  | .agg cs, _, hn, ⟨a, e, H⟩ => ⟨a, e, VRels.ren hs cs a (by simpa [refsLt] using hn) H⟩
  | .tup cs, _, hn, ⟨a, e, H⟩ => ⟨a, e, VRels.ren hs cs a (by simpa [refsLt] using hn) H⟩
  | .fn _ fs cs, _, hn, ⟨a, b, e, H, K⟩ => by
      simp only [refsLt, Bool.and_eq_true] at hn
      exact ⟨a, b, e, VRels.ren hs fs a hn.1 H, VRels.ren hs cs b hn.2 K⟩
  | .ptr id off, v, hn, ⟨h1, h2, h3, h4⟩ => ⟨h1, h2, by simpa [refsLt] using hn, fun hd => by
      obtain ⟨q1, q2⟩ := hs.D id hd
      rw [q2]; exact h4 q1⟩
  | .sl id off es n, v, hn, ⟨h1, h2, h3, h4⟩ => ⟨h1, h2, by simpa [refsLt] using hn, fun hd => by
      obtain ⟨q1, q2⟩ := hs.D id hd
      rw [q2, hs.w]; exact h4 q1⟩
  | .ro n cs, v, _, ⟨base, cap, e, hn, H⟩ => ⟨base, cap, e, hn, H.imp id fun ⟨b, off, C, el, fz, hb, hh, hne, hp⟩ =>
      ⟨b, off, C, el, fz, hb, by rw [hs.w]; exact hh, hs.free b hne, VPre.sees ⟨hs.w, hs.free⟩ cs _ hp⟩⟩
  | .rp cs, v, _, ⟨b, off, C, el, fz, hb, hh, hne, hp⟩ => ⟨b, off, C, el, fz, hb, by rw [hs.w]; exact hh, hs.free b hne, VPre.sees ⟨hs.w, hs.free⟩ cs _ hp⟩
theorem VRels.ren {M M' : Mem} {ρ : Nat → Nat} (hs : Ren M M' ρ) {r : Bool} : ∀ (cs : List AV) (l : List Value), refsLts M'.n cs = true → VRels M r (rens ρ cs) l → VRels M' r cs l
  | [], _, _, H => H
  | c :: cs, _, hn, ⟨v, vs, e, H, K⟩ => by
      simp only [refsLts, Bool.and_eq_true] at hn
      exact ⟨v, vs, e, VRel.ren hs c v hn.1 H, VRels.ren hs cs vs hn.2 K⟩
end
theorem VPreR.ren {M M' : Mem} {ρ : Nat → Nat} (hs : Ren M M' ρ) : ∀ (cs : List AV) (l : List Value), refsLts M'.n cs = true → VPreR M (rens ρ cs) l → VPreR M' cs l
  | [], _, _, _ => trivial
  | c :: cs, _, hn, ⟨v, vs, e, H, K⟩ => by
      simp only [refsLts, Bool.and_eq_true] at hn
      exact ⟨v, vs, e, VRel.ren hs c v hn.1 H, VPreR.ren hs cs vs hn.2 K⟩

theorem rens_length (ρ : Nat → Nat) : ∀ cs : List AV, (rens ρ cs).length = cs.length
  | [] => rfl
  | c :: cs => by simp [rens, rens_length ρ cs]

/-- A state by lists: slots, blocks. All else is forgotten. -/
def lk {α : Type} (d : α) : List (Nat × α) → Nat → α
  | [], _ => d
  | (k, v) :: l, t => if t = k then v else lk d l t
def st (l : List (Nat × AV)) (b : List (Nat × Blk)) (n : Nat) : AS := ⟨lk .dead l, ⟨lk none (b.map fun p => (p.1, some p.2)), n⟩⟩

theorem lk_mem {α : Type} {d : α} : ∀ {l : List (Nat × α)} {t : Nat}, (lk d l t = d ∧ ∀ p ∈ l, p.1 ≠ t) ∨ ∃ p ∈ l, p.1 = t ∧ lk d l t = p.2
  | [], t => .inl ⟨rfl, fun _ h => by cases h⟩
  | (k, v) :: l, t => by
    unfold lk
    by_cases h : t = k
    · exact .inr ⟨(k, v), .head _, h.symm, by simp [h]⟩
    · rw [if_neg h]
      rcases lk_mem (d := d) (l := l) (t := t) with ⟨h1, h2⟩ | ⟨p, hp, h1, h2⟩
      · exact .inl ⟨h1, fun p hp => by
          cases hp with
          | head => exact fun e => h e.symm
          | tail _ hp => exact h2 p hp⟩
      · exact .inr ⟨p, .tail _ hp, h1, h2⟩

/-- 'st l b n' says no more than σ, its blocks numbered by ρ. -/
structure Weak (ρ : Nat → Nat) (l : List (Nat × AV)) (b : List (Nat × Blk)) (n : Nat) (σ : AS) : Prop where
  tm : ∀ p ∈ l, ren ρ p.2 = σ.tm p.1 ∧ refsLt n p.2 = true
  bk : ∀ p ∈ b, p.1 < n ∧ refsLts n p.2.cs = true ∧ σ.h.bk (ρ p.1) = some ⟨rens ρ p.2.cs, p.2.fix⟩
  inj : ∀ p ∈ b, ∀ q ∈ b, ρ p.1 = ρ q.1 → p.1 = q.1

theorem GoA.weak {fn : FnE} (hk0 : fn.k = 0) {todo : List Item} {σ : AS} {r : RV} (ρ : Nat → Nat) {l : List (Nat × AV)} {b : List (Nat × Blk)} {n : Nat} (hw : Weak ρ l b n σ) (h : GoA P fn todo (st l b n) r) : GoA P fn todo σ r := by
  intro hok X M a hS R fb cs hb hf
  have dom : ∀ id, ((st l b n).h.bk id).isSome = true → ∃ p ∈ b, p.1 = id ∧ (st l b n).h.bk id = some p.2 ∧ M.D (ρ id) := by
    intro id hid
    rcases lk_mem (d := none) (l := b.map fun p => (p.1, some p.2)) (t := id) with ⟨h1, _⟩ | ⟨p, hp, h1, h2⟩
    · have : (st l b n).h.bk id = none := h1
      rw [this] at hid; cases hid
    · obtain ⟨q, hq, rfl⟩ := List.mem_map.1 hp
      refine ⟨q, hq, h1, h2, (R.heap.dom _).2 ?_⟩
      have := (hw.bk q hq).2.2
      simp only at h1
      rw [h1] at this
      rw [this]; rfl
  let M' : Mem := { φ := fun id => M.φ (ρ id), D := fun id => ((st l b n).h.bk id).isSome = true, n := n, O := M.O, w := M.w }
  have hren : Ren M M' ρ := ⟨rfl, fun id hid => ⟨(dom id hid).choose_spec.2.2.2, rfl⟩, fun bb hfree => ⟨fun id hid => hfree.1 _ (dom id hid).choose_spec.2.2.2, hfree.2⟩⟩
  have R' : Rel fn.fn.ntmps X (st l b n) M' a := by
    refine ⟨⟨rfl, fun id => Iff.rfl, fun id hid => ?_, fun id k hk => ?_, fun i j hi hj hij => ?_, R.heap.kept, R.heap.old, fun id hid => R.heap.own _ (dom id hid).choose_spec.2.2.2⟩, R.size, R.defers, R.okD, fun t => ?_, by rw [hS.1, hk0]; exact Nat.zero_le _, fun id h => by rw [hS.1, hk0] at h; exact absurd h (Nat.not_lt_zero _)⟩
    · obtain ⟨p, hp, rfl, _⟩ := dom id hid
      exact (hw.bk p hp).1
    · obtain ⟨p, hp, rfl, hpk, hD⟩ := dom id (by rw [hk]; rfl)
      rw [hk] at hpk
      cases hpk
      obtain ⟨_, h2, h3⟩ := hw.bk p hp
      obtain ⟨C, e, q1, q2, q3⟩ := R.heap.bk _ _ h3
      exact ⟨C, e, q1, VPreR.ren hren _ _ h2 q2, fun hfx => by rw [q3 hfx, rens_length]⟩
    · obtain ⟨p, hp, rfl, _, hD1⟩ := dom i hi
      obtain ⟨q, hq, rfl, _, hD2⟩ := dom j hj
      exact hw.inj p hp q hq (R.heap.inj _ _ hD1 hD2 hij)
    · rcases lk_mem (d := AV.dead) (l := l) (t := t) with ⟨h1, _⟩ | ⟨p, hp, rfl, h2⟩
      · have : (st l b n).tm t = .dead := h1
        rw [this]; exact trivial
      · have : (st l b n).tm p.1 = p.2 := h2
        rw [this]
        obtain ⟨q1, q2⟩ := hw.tm p hp
        exact VRel.ren hren _ _ q2 (by rw [q1]; exact R.tm p.1)
  exact h hok X M' a hS R' fb cs hb hf

mutual
theorem ren_id : ∀ a : AV, ren (fun i => i) a = a
  | .int _ _ | .bool _ | .str _ | .exact _ | .nils | .dead | .ro _ _ | .rp _ | .ptr _ _ | .sl _ _ _ _ => rfl
  | .agg cs => by rw [ren, rens_id cs]
  | .tup cs => by rw [ren, rens_id cs]
  | .fn _ a b => by rw [ren, rens_id a, rens_id b]
theorem rens_id : ∀ cs : List AV, rens (fun i => i) cs = cs
  | [] => rfl
  | c :: cs => by rw [rens, ren_id c, rens_id cs]
end

/-- The same, with the blocks' numbers as they are. -/
theorem GoA.weak0 {fn : FnE} (hk0 : fn.k = 0) {todo : List Item} {σ : AS} {r : RV} {l : List (Nat × AV)} {b : List (Nat × Blk)} {n : Nat} (h1 : ∀ p ∈ l, p.2 = σ.tm p.1 ∧ refsLt n p.2 = true)
    (h2 : ∀ p ∈ b, p.1 < n ∧ refsLts n p.2.cs = true ∧ σ.h.bk p.1 = some p.2) (h : GoA P fn todo (st l b n) r) : GoA P fn todo σ r :=
  GoA.weak hk0 (fun i => i) ⟨fun p hp => by rw [ren_id]; exact h1 p hp, fun p hp => by
    rw [rens_id]
    exact h2 p hp, fun _ _ _ _ h => h⟩ h

/-- Forgetting, with the caller's blocks: numbers as they are. -/
theorem GoA.weakF {fn : FnE} {todo : List Item} {σ τ : AS} {r : RV} (hn : σ.h.nt ≤ τ.h.nt) (ht : ∀ t, τ.tm t = .dead ∨ τ.tm t = σ.tm t) (hb : ∀ id b, τ.h.bk id = some b → σ.h.bk id = some b) (h : GoA P fn todo τ r) : GoA P fn todo σ r := by
  intro hok X M a hS R fb cs hbb hf
  obtain ⟨M', e1, e2, e3, e4, hle, HR⟩ := R.heap.less hn hb
  have R' : Rel fn.fn.ntmps X τ M' a := ⟨HR, R.size, R.defers, R.okD, fun t => by
    rcases ht t with h | h
    · rw [h]; exact trivial
    · rw [h]; exact VRel.mono hle _ _ (R.tm t), R.inv.le hle⟩
  have := h hok X M' a hS R' fb cs hbb hf
  rw [e1, e2] at this
  exact this
/-- The caller's blocks, seen by a callee that may write them. -/
theorem PSpecL.intro {lp : Option LoopI} {f : FuncId} {fn : Func} {c : Code} {args : List AV} {Q : AV → HP → Prop} {h : HP} (n : Nat) (hf : P.funcs[f]? = some fn) (hb : fn.body = some c) (hnm : fn.name ≠ "runtime.NumGoroutine") (hm : P.follows .mixedOrders = true)
    (ex : List Nat) (hok : okCode fn.ntmps ex c = true) (hlen : args.length ≤ fn.ntmps) (hv : vc P ⟨fn, ex, h.nt, lp, false⟩ n [.code c] ⟨iniT args, h⟩ (.own Q)) : PSpecL P lp f args h Q := by
  refine ⟨⟨fn, hf, hnm, by rw [hb]; rfl⟩, fun Y M vs hlp H hvs cs => ?_⟩
  have hvl := hvs.length
  let b : Frame := { (default : Frame) with fn := f, kind := .normal }
  have henter : Frame.enter P f ⟨vs⟩ .normal = b.at { tmps := ⟨vs⟩ ++ Array.replicate (fn.ntmps - (⟨vs⟩ : Array Value).size) undef, defers := [] } [.code c] := by
    simp [Frame.enter, Frame.at, hf, hb, b]
  have G := vc_sound hm n _ _ _ hv
  let X : Ctx := ⟨M.w, fun b => ∃ id, M.D id ∧ M.φ id = b, h.nt, M, []⟩
  have HX : HRel X h M := H.rebase _ _ _
  have hX : X.okL lp := by
    cases lp with
    | none => trivial
    | some L => exact ⟨hlp.1, H.notOwn hlp.1 rfl, hlp.2, by show M.n ≤ h.nt; rw [H.n]; exact Nat.le_refl _, rfl⟩
  have R : Rel fn.ntmps X ⟨iniT args, h⟩ M { tmps := ⟨vs⟩ ++ Array.replicate (fn.ntmps - (⟨vs⟩ : Array Value).size) undef, defers := [] } := by
    refine ⟨HX, ?_, rfl, .inl rfl, fun t => ?_, ?_, fun id _ hD => ⟨hD, rfl, rfl⟩⟩
    · simp; omega
    · simp only [iniT]
      cases ht : args[t]? with
      | none => exact trivial
      | some a =>
        obtain ⟨v, hv1, hr⟩ := hvs.get t a ht
        have hlt : t < vs.length := (List.getElem?_eq_some_iff.1 hv1).1
        have : (⟨vs⟩ ++ Array.replicate (fn.ntmps - (⟨vs⟩ : Array Value).size) undef : Array Value).getD t undef = v := by
          rw [Array.getD_eq_getD_getElem?, Array.getElem?_append_left (by simpa using hlt)]
          simp [hv1]
        rw [this]
        exact hr
    · show h.nt ≤ M.n
      rw [H.n]; exact Nat.le_refl _
  have hok' : okTodo fn.ntmps ex [.code c] = true := by simpa [okTodo, okItem] using hok
  obtain ⟨v, w', fr, ⟨hk, M', r, h', hq, rfl, hO, HR, hI, hr⟩, hs, h3, h4⟩ := G hok' X M _ ⟨rfl, hX, fun _ => rfl⟩ R b cs rfl (by simpa [b] using hf)
  rw [← henter] at hs
  have hfS : ∀ b, X.fin.S b → ∃ id, M.D id ∧ M.φ id = b := fun b hb => by
    rcases hb with hb | hb
    · exact hb
    · cases hb
  have hin : ∀ id, M'.D id → (M.w.heap.size ≤ M'.φ id ∨ ∃ j, M.D j ∧ M.φ j = M'.φ id) := fun id hd => (HR.own id hd).1.imp (fun h => h) (hfS _)
  refine ⟨.returned v, M'.w, fr, ⟨v, M', r, h', rfl, rfl, hO, ⟨?_, fun id hid hd => ?_, fun bb C e fz hfr hh => ?_⟩, hq, ?_, hr⟩, hs, h3, h4⟩
  · rw [H.n]; exact hI.1
  · rw [H.n] at hid
    obtain ⟨k1, k2, k3⟩ := hI.2 id hid hd
    exact ⟨k1, k2, k3⟩
  · have hbl := block_lt hh
    have hnS : ¬ X.fin.S bb := fun h => by
      obtain ⟨id, hd, he⟩ := hfS _ h
      exact hfr.1 id hd he
    refine ⟨⟨fz, by rw [hk.block bb hbl hnS]; exact hh⟩, fun id hd he => ?_, by rw [hO]; exact hfr.2⟩
    rcases hin id hd with h5 | ⟨j, hj, hj2⟩
    · omega
    · exact hfr.1 j hj (by omega)
  · refine HRel.unbase H HR H.kept.size (fun b hb => .inr (hfS b hb)) hO ⟨hk.os.trans H.kept.os, hk.tape.trans H.kept.tape, hk.output.trans H.kept.output, Nat.le_trans H.kept.size hk.size, fun bb hbb hS => ?_⟩
    have hnS : ¬ X.fin.S bb := fun h => by
      obtain ⟨id, hd, he⟩ := hfS _ h
      rcases (H.own id hd).1 with h5 | h5
      · omega
      · exact hS (by rw [← he]; exact h5)
    exact (hk.block bb (Nat.lt_of_lt_of_le hbb H.kept.size) hnS).trans (H.kept.block bb hbb hS)

/-! ### Giving a block up: what it held may be read from then on, and nobody writes it -/
def Frz (h : HP) (j : Nat) (a c : AV) : Prop :=
  c = a ∨ c = .dead ∨ (a = .nils ∧ c = .ro 0 []) ∨ ∃ off es n cs, a = .sl j off es n ∧ srcA es h a = some (n, cs) ∧ noRefs cs = true ∧ c = .ro n cs
def FrzL (h : HP) (j : Nat) : List AV → List AV → Prop
  | [], l => l = []
  | a :: as, l => ∃ c cs, l = c :: cs ∧ Frz h j a c ∧ FrzL h j as cs
theorem frz_rel {h : HP} {M : Mem} (H : HRel X h M) {j : Nat} {a c : AV} (hf : Frz h j a c) {v : Value} (hv : VRel M true a v) : VRel (M.drop j) true c v := by
  have hle := M.drop_le j
  rcases hf with rfl | rfl | ⟨rfl, rfl⟩ | ⟨off, es, n, cs, rfl, hs, hno, rfl⟩
  · exact VRel.mono hle _ _ hv
  · exact trivial
  · simp only [VRel] at hv; subst hv; exact ⟨none, 0, rfl, Nat.le_refl _, .inl rfl⟩
  · simp only [srcA] at hs
    split at hs
    · rename_i k hk
      split at hs
      · rename_i hc
        cases hs
        have hD : M.D j := (H.dom j).2 (by simp [hk])
        obtain ⟨_, _, _, h7⟩ := hv
        obtain ⟨cap, e, sz, rfl, hn, _⟩ := h7 hD
        obtain ⟨C, el, hb, hpre, _⟩ := H.bk j k hk
        exact ⟨_, cap, rfl, hn, .inr ⟨M.φ j, off, C, el, (0, 0), rfl, hb, ⟨fun id hD2 he => hD2.2 (H.inj id j hD2.1 hD he), (H.own j hD).2⟩,
          noRefs_pre (M := M) (M' := M.drop j) ⟨rfl, fun b hb => ⟨fun id hd => hb.1 id hd.1, hb.2⟩⟩ hno ((hpre.drop off).take _)⟩⟩
      · cases hs
    · cases hs
theorem frz_pre {h : HP} {M : Mem} (H : HRel X h M) {j : Nat} : ∀ {as cs : List AV} {l : List Value}, FrzL h j as cs → VPreR M as l → VPreR (M.drop j) cs l
  | [], cs, l, hf, _ => by cases hf; exact trivial
  | a :: as, _, _, ⟨c, cs, e, h1, h2⟩, ⟨v, vs, e2, h3, h4⟩ => by subst e e2; exact ⟨v, vs, rfl, frz_rel H h1 h3, frz_pre H h2 h4⟩
theorem frz_length {h : HP} {j : Nat} : ∀ {as cs : List AV}, FrzL h j as cs → cs.length = as.length
  | [], _, hf => by cases hf; rfl
  | _ :: as, _, ⟨c, cs, e, _, h2⟩ => by subst e; simp [frz_length (as := as) h2]
theorem frzL_refl {h : HP} {j : Nat} : ∀ as : List AV, FrzL h j as as
  | [] => rfl
  | a :: as => ⟨a, as, rfl, .inl rfl, frzL_refl as⟩
theorem HRel.frz {h τ : HP} {M : Mem} (H : HRel X h M) (j : Nat) (hj : τ.bk j = none) (hn : h.nt ≤ τ.nt) (hb : ∀ id b, τ.bk id = some b → ∃ b0, h.bk id = some b0 ∧ b.fix = b0.fix ∧ FrzL h j b0.cs b.cs) :
    ∃ M' : Mem, M'.w = M.w ∧ M'.O = M.O ∧ M.le M' ∧ (M.drop j).le M' ∧ HRel X τ M' := by
  have hD : ∀ id, (τ.bk id).isSome = true → (M.drop j).D id := by
    intro id hid
    obtain ⟨b, hb1⟩ := Option.isSome_iff_exists.1 hid
    obtain ⟨b0, h1, _⟩ := hb id b hb1
    exact ⟨(H.dom id).2 (by rw [h1]; rfl), fun e => by subst e; rw [hj] at hb1; cases hb1⟩
  let M' : Mem := { M with D := fun id => (τ.bk id).isSome = true, n := τ.nt }
  have hle2 : (M.drop j).le M' := ⟨by show M.n ≤ τ.nt; rw [H.n]; exact hn, fun id _ hid => ⟨hD id hid, rfl, rfl⟩, fun b C e fz hf hh => ⟨⟨fz, hh⟩, fun id hid => hf.1 id (hD id hid), hf.2⟩⟩
  refine ⟨M', rfl, rfl, (M.drop_le j).trans hle2, hle2, rfl, fun id => Iff.rfl, fun id hid => ?_, fun id k hk => ?_, fun i j hi hj => H.inj i j (hD i hi).1 (hD j hj).1, H.kept, H.old, fun id hid => H.own id (hD id hid).1⟩
  · exact Nat.lt_of_lt_of_le (H.lt id (hD id hid).1) hle2.n
  · obtain ⟨b0, h1, h2, h3⟩ := hb id k hk
    obtain ⟨C, e, q1, q2, q3⟩ := H.bk id b0 h1
    exact ⟨C, e, q1, VPreR.mono hle2 _ _ (frz_pre H h3 q2), fun hf => by rw [frz_length h3]; exact q3 (by rw [← h2]; exact hf)⟩
theorem GoA.freeze {fn : FnE} {todo : List Item} {σ τ : AS} {r : RV} (j : Nat) (hj : τ.h.bk j = none) (hn : σ.h.nt ≤ τ.h.nt) (ht : ∀ t, Frz σ.h j (σ.tm t) (τ.tm t))
    (hb : ∀ id b, τ.h.bk id = some b → ∃ b0, σ.h.bk id = some b0 ∧ b.fix = b0.fix ∧ FrzL σ.h j b0.cs b.cs) (h : GoA P fn todo τ r) : GoA P fn todo σ r := by
  intro hok X M a hS R fb cs hbb hf
  obtain ⟨M', e1, e2, hle, hle2, HR⟩ := R.heap.frz j hj hn hb
  have R' : Rel fn.fn.ntmps X τ M' a := ⟨HR, R.size, R.defers, R.okD, fun t => VRel.mono hle2 _ _ (frz_rel R.heap (ht t) (R.tm t)), R.inv.le hle⟩
  have := h hok X M' a hS R' fb cs hbb hf
  rw [e1, e2] at this
  exact this
/-- A callee that keeps a slice which it was handed. -/
theorem PSpec.frz {g : FuncId} {args args' : List AV} {h : HP} {r : AV} (j : Nat) (ha : FrzL h j args args') (hno : noRefs args' = true) (hr : noRef r = true) (hS : ASpec P g args' r) :
    PSpec P g args h (fun a h' => a = r ∧ h' = h.drop j) := by
  refine ⟨hS.1, fun X M vs _ H hv => ?_⟩
  have HD := H.drop j
  have hv' : VRels (M.drop j) true args' vs := by
    have key : ∀ {as cs : List AV} {l : List Value}, FrzL h j as cs → VRels M true as l → VRels (M.drop j) true cs l := by
      intro as
      induction as with
      | nil => intro cs l hf hl; cases hf; exact hl
      | cons a as ih => rintro _ _ ⟨c, cs, rfl, h1, h2⟩ ⟨v, vs, rfl, h3, h4⟩; exact ⟨v, vs, rfl, frz_rel H h1 h3, ih h2 h4⟩
    exact key ha hv
  refine (callOk_sound HD (.inl ⟨hno, hS, hr⟩) hv').mono ?_
  rintro e w' ⟨v, rfl, hx, hrel⟩
  have HE := HD.ext hx
  exact ⟨v, { M.drop j with w := w' }, r, h.drop j, rfl, rfl, rfl, (M.drop_le j).trans HE.1, ⟨rfl, rfl⟩, HE.2, hrel⟩
theorem PSpecL.mono {lp : Option LoopI} {g : FuncId} {args : List AV} {h : HP} {Q Q' : AV → HP → Prop} (hS : PSpecL P lp g args h Q) (hq : ∀ r h', Q r h' → Q' r h') : PSpecL P lp g args h Q' :=
  ⟨hS.1, fun X M vs hl H hv => (hS.2 X M vs hl H hv).mono fun e w' ⟨v, M', r, h', e1, e2, e3, e4, e5, e6⟩ => ⟨v, M', r, h', e1, e2, e3, e4, hq r h' e5, e6⟩⟩

/-- From a round's conditions to a loop. -/
theorem GoA.round (hm : P.follows .mixedOrders = true) {fn : FnE} {c : Code} {k : List Item} {σ : AS} {r : RV} (n : Nat) (h : vc P fn n (.code c :: .inLoop c :: k) σ r) : GoA P fn (.inLoop c :: k) σ r :=
  GoA.inLoop (vc_sound hm n _ _ _ h)

/-! ### Calls -/
theorem CallV.of {pc : PC} {g : FuncId} {args : List AV} {h : HP} {r : AV} {K : AV → HP → Prop} (hS : ASpec P g args r) (hn : noRefs args = true) (hr : noRef r = true) (hK : K r h) : CallV P pc (.fn (.func g) [] []) args h K :=
  .inl ⟨g, [], [], rfl, hS.1, .inl ⟨r, .inl ⟨by simpa using hn, by simpa using hS, hr⟩, hK⟩⟩
theorem CallV.view {pc : PC} {g : FuncId} {args : List AV} {h : HP} {r : AV} {K : AV → HP → Prop} (hS : ASpec P g (args.map (Am.view h)) r) (hr : flat r = true) (hK : K r h) : CallV P pc (.fn (.func g) [] []) args h K :=
  .inl ⟨g, [], [], rfl, hS.1, .inl ⟨r, .inr ⟨by simpa using hS, hr⟩, hK⟩⟩
theorem CallV.own {lp : Option LoopI} {g : FuncId} {first caps args : List AV} {h : HP} {Q : AV → HP → Prop} {K : AV → HP → Prop} (hS : PSpec P g (first ++ args ++ caps) h Q) (hK : ∀ r h', h.nt ≤ h'.nt → Q r h' → K r h') : CallV P (.yes lp) (.fn (.func g) first caps) args h K :=
  .inl ⟨g, first, caps, rfl, hS.1, .inr ⟨lp, rfl, Q, hS, hK⟩⟩
theorem CallV.yield {L : LoopI} {args : List AV} {h : HP} {Q : HP → Prop} {K : AV → HP → Prop} (hS : YSpec P L args h Q) (hK : ∀ h', h.nt ≤ h'.nt → Q h' → K (.bool true) h') : CallV P (.yes (some L)) (.fn (.yield L.l) [] []) args h K :=
  .inr ⟨L, rfl, rfl, Q, hS, hK⟩

theorem boolV_split {b : Bool} {x y : Prop} (h1 : b = true → x) (h2 : b = false → y) : boolV (.bool b) x y := ⟨h1, h2⟩
theorem boolV_true {x y : Prop} (h : x) : boolV (.bool true) x y := ⟨fun _ => h, fun h => by cases h⟩
theorem boolV_false {x y : Prop} (h : y) : boolV (.bool false) x y := ⟨(fun h => by cases h), fun _ => h⟩

end Go.Am
