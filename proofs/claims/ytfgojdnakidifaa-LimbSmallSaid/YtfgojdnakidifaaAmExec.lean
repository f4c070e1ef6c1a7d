/-
  'Am', part 13: one operation; calls by contract.
-/
import Derived.Test.YtfgojdnakidifaaAmOps10
set_option linter.unusedSimpArgs false
set_option linter.unusedVariables false
namespace Go.Am
variable {P : Program} {X : Ctx} {h : HP} {M : Mem}

def withTy {α : Type} (P : Program) (t : TypeId) (f : TyI → Option α) : Option α :=
  match tyI P t with
  | some i => f i
  | none => none
theorem withTy_spec {α : Type} {t : TypeId} {f : TyI → Option α} {r : α} (h : withTy P t f = some r) : ∃ i, tyI P t = some i ∧ f i = some r := by
  unfold withTy at h
  split at h
  · exact ⟨_, by assumption, h⟩
  · cases h

def nilA (h : HP) (x : AV) : Option AV :=
  match x with
  | .ptr id off => if (h.bk id).isSome = true then some (.ptr id off) else none
  | .rp cs => some (.rp cs)
  | .fn (.func f) a b => some (.fn (.func f) a b)
  | _ => none

def bltA (P : Program) (b : Builtin) (args : List AV) (ts : List TypeId) (h : HP) : Option (AV × HP) :=
  match b, args, ts with
  | .len, [x], [t] => withTy P t fun i => (lenA i h x).map fun (n : Nat) => (.int .i64 (n : Int), h)
  | .append, [x, y], [t, t2] => withTy P t fun i => withTy P t2 fun i2 => appendA P i i2 h x y
  | .copy, [x, y], [t, _] => withTy P t fun i => copyA i h x y
  | .max, [x, y], _ => (maxA x y).map fun v => (v, h)
  | .min, [x, y], _ => (minA x y).map fun v => (v, h)
  | _, _, _ => none

/-- An operation that calls no Go function. -/
def exec (P : Program) (op : Op) (ρ : Operand → AV) (h : HP) : Option (AV × HP) :=
  match op with
  | .move x => some (ρ x, h)
  | .assign x => some (ρ x, h)
  | .pick c a b => (match ρ c with
    | .bool t => some (if t then ρ a else ρ b, h)
    | _ => none)
  | .alloc t => withTy P t fun i => some (.ptr h.nt 0, h.add ⟨i.zero, true⟩)
  | .box _ x => (cellsA (ρ x)).map fun cs => (.ptr h.nt 0, h.add ⟨cs, true⟩)
  | .build t ps => withTy P t fun i => (buildA i (evParts ρ ps)).map fun v => (v, h)
  | .buildSlice t n ps => withTy P t fun i => buildSliceA P i h n (evParts ρ ps)
  | .load t x => withTy P t fun i => (loadA i h (ρ x)).map fun v => (v, h)
  | .store t a v => withTy P t fun i => (storeA i h (ρ a) (ρ v)).map fun h' => (.dead, h')
  | .nilCheck x => (nilA h (ρ x)).map fun v => (v, h)
  | .binOp op t x y _ => (binA P op t (ρ x) (ρ y)).map fun v => (v, h)
  | .unOp op _ x => (unA op (ρ x)).map fun v => (v, h)
  | .convert s d x => withTy P s fun i => withTy P d fun i2 => (convA P i i2 h (ρ x)).map fun v => (v, h)
  | .makeFunc fn a b => some (.fn fn (a.toList.map ρ) (b.toList.map ρ), h)
  | .makeSlice t l c => withTy P t fun i => makeA P i h (ρ l) (ρ c)
  | .slice t x lo hi mx => withTy P t fun i => (sliceA i h (ρ x) (lo.map ρ) (hi.map ρ) (mx.map ρ)).map fun v => (v, h)
  | .fieldAddr t x f => withTy P t fun i => (fieldAddrA i h f (ρ x)).map fun v => (v, h)
  | .field t x f => withTy P t fun i => (fieldA i f (ρ x)).map fun v => (v, h)
  | .indexAddr t x ix => withTy P t fun i => (indexAddrA i h (ρ x) (ρ ix)).map fun v => (v, h)
  | .index t x ix => withTy P t fun i => (indexA i (ρ x) (ρ ix)).map fun v => (v, h)
  | .extract x j => (extractA (ρ x) j).map fun v => (v, h)
  | .call { callee := .builtin b, args, argTypes } => bltA P b (args.toList.map ρ) argTypes.toList h
  | _ => none

/-- What an operation leaves: a value for its slot, or nothing. -/
def NextRel (M : Mem) (v : AV) : Next → Prop
  | .value u => VRel M true v u
  | .skip => v = .dead
  | _ => False

theorem map_some {α β : Type} {o : Option α} {f : α → β} {r : β} (h : o.map f = some r) : ∃ a, o = some a ∧ f a = r := by
  cases o with
  | none => cases h
  | some a => exact ⟨a, rfl, by simpa using h⟩

theorem exec_sound (H : HRel X h M) (o : Oper) {ρa : Operand → AV} {ρc : Operand → Value} (hρ : ∀ x, VRel M true (ρa x) (ρc x)) {v : AV} {h' : HP} (he : exec P o.op ρa h = some (v, h')) :
    ∃ M' nx, (execOp ρc o).run P M.w = .ok nx M'.w ∧ M.le M' ∧ M'.O = M.O ∧ HRel X h' M' ∧ NextRel M' v nx := by
  have same : ∀ {c : AV} {s : Sem Value}, (∃ u, s.run P M.w = .ok u M.w ∧ VRel M true c u) → v = c → h' = h → (∀ w : World, (execOp ρc o).run P w = ((do pure (.value (← s)) : Sem Next)).run P w) →
      ∃ M' nx, (execOp ρc o).run P M.w = .ok nx M'.w ∧ M.le M' ∧ M'.O = M.O ∧ HRel X h' M' ∧ NextRel M' v nx := by
    rintro c s ⟨u, hu, hr⟩ rfl rfl hs
    exact ⟨M, .value u, by rw [hs]; simp [hu], Mem.le.refl M, rfl, H, hr⟩
  have more : ∀ {c : AV} {k : HP} {s : Sem Value}, (∃ M' u, s.run P M.w = .ok u M'.w ∧ M.le M' ∧ M'.O = M.O ∧ HRel X k M' ∧ VRel M' true c u) → v = c → h' = k → (∀ w : World, (execOp ρc o).run P w = ((do pure (.value (← s)) : Sem Next)).run P w) →
      ∃ M' nx, (execOp ρc o).run P M.w = .ok nx M'.w ∧ M.le M' ∧ M'.O = M.O ∧ HRel X h' M' ∧ NextRel M' v nx := by
    rintro c k s ⟨M', u, hu, h1, h2, h3, hr⟩ rfl rfl hs
    exact ⟨M', .value u, by rw [hs]; simp [hu], h1, h2, h3, hr⟩
  obtain ⟨dst, op, ty, pos, aft, gd⟩ := o
  cases op <;> simp only [exec] at he <;> try (cases he; done)
  case move x => cases he; exact ⟨M, .value (ρc x), rfl, Mem.le.refl M, rfl, H, hρ x⟩
  case assign x => cases he; exact ⟨M, .value (ρc x), rfl, Mem.le.refl M, rfl, H, hρ x⟩
  case pick c a b =>
    split at he
    · rename_i t ht
      cases he
      have hc := hρ c
      rw [ht] at hc
      simp only [VRel] at hc
      refine ⟨M, .value (if t then ρc a else ρc b), by simp [execOp, hc, asBool], Mem.le.refl M, rfl, H, ?_⟩
      cases t
      · exact hρ b
      · exact hρ a
    · cases he
  case alloc t =>
    obtain ⟨i, hi, he⟩ := withTy_spec he
    cases he
    exact more (alloc_sound H hi) rfl rfl (fun _ => rfl)
  case box t x =>
    obtain ⟨cs, hcs, he⟩ := map_some he
    cases he
    exact more (box_sound H (hρ x) hcs) rfl rfl (fun _ => rfl)
  case build t ps =>
    obtain ⟨i, hi, he⟩ := withTy_spec he
    obtain ⟨c, hc, he⟩ := map_some he
    cases he
    exact same (build_sound hi (fun x _ => hρ x) hc) rfl rfl (fun _ => rfl)
  case buildSlice t n ps =>
    obtain ⟨i, hi, he⟩ := withTy_spec he
    exact more (buildSlice_sound H hi (fun x _ => hρ x) he) rfl rfl (fun _ => rfl)
  case load t x =>
    obtain ⟨i, hi, he⟩ := withTy_spec he
    obtain ⟨c, hc, he⟩ := map_some he
    cases he
    exact same (loadA_sound H hi (hρ x) hc) rfl rfl (fun _ => rfl)
  case store t a b =>
    obtain ⟨i, hi, he⟩ := withTy_spec he
    obtain ⟨c, hc, he⟩ := map_some he
    cases he
    obtain ⟨M', h1, h2, h3, h4⟩ := storeA_sound H hi (hρ a) (hρ b) hc
    exact ⟨M', .skip, by simp [execOp, h1], h2, h3, h4, rfl⟩
  case nilCheck x =>
    obtain ⟨c, hc, he⟩ := map_some he
    cases he
    have hx := hρ x
    unfold nilA at hc
    split at hc
    · rename_i id off hp
      rw [hp] at hx
      split at hc
      · rename_i hs
        cases hc
        have hx0 := hx
        obtain ⟨_, _, _, h7⟩ := hx
        have := h7 ((H.dom id).2 hs)
        exact ⟨M, .value (.pointer (some ⟨M.φ id, off, none⟩)), by simp [execOp, this], Mem.le.refl M, rfl, H, this ▸ hx0⟩
      · cases hc
    · rename_i cs hp
      cases hc
      rw [hp] at hx
      have hx0 := hx
      obtain ⟨b, off, C, e, fz, hv, _⟩ := hx
      exact ⟨M, .value (ρc x), by simp [execOp, hv], Mem.le.refl M, rfl, H, hx0⟩
    · rename_i f a b hp
      cases hc
      rw [hp] at hx
      have hx0 := hx
      obtain ⟨_, _, hv, _⟩ := hx
      exact ⟨M, .value (ρc x), by simp [execOp, hv], Mem.le.refl M, rfl, H, hx0⟩
    · cases hc
  case binOp op t x y ty2 =>
    obtain ⟨c, hc, he⟩ := map_some he
    cases he
    exact same (bin_sound (hρ x) (hρ y) hc) rfl rfl (fun _ => rfl)
  case unOp op t x =>
    obtain ⟨c, hc, he⟩ := map_some he
    cases he
    exact same (un_sound (hρ x) hc) rfl rfl (fun _ => rfl)
  case convert s d x =>
    obtain ⟨i, hi, he⟩ := withTy_spec he
    obtain ⟨i2, hi2, he⟩ := withTy_spec he
    obtain ⟨c, hc, he⟩ := map_some he
    cases he
    exact more (conv_sound H hi hi2 (hρ x) hc) rfl rfl (fun _ => rfl)
  case makeFunc fn a b =>
    cases he
    refine ⟨M, .value (.func fn (a.map ρc) (b.map ρc)), rfl, Mem.le.refl M, rfl, H, ?_⟩
    have hm : ∀ l : List Operand, VRels M true (l.map ρa) (l.map ρc) := by
      intro l
      induction l with
      | nil => rfl
      | cons x l ih => exact ⟨_, _, rfl, hρ x, ih⟩
    exact ⟨a.toList.map ρc, b.toList.map ρc, by rw [← Array.toList_map, ← Array.toList_map], hm _, hm _⟩
  case makeSlice t l c =>
    obtain ⟨i, hi, he⟩ := withTy_spec he
    exact more (make_sound H hi (hρ l) (hρ c) he) rfl rfl (fun _ => rfl)
  case slice t x lo hi2 mx =>
    obtain ⟨i, hi, he⟩ := withTy_spec he
    obtain ⟨c, hc, he⟩ := map_some he
    cases he
    have ho : ∀ z : Option Operand, ORel M (z.map ρa) (z.map ρc) := fun z => by
      cases z with
      | none => trivial
      | some x => exact hρ x
    exact same (slice_sound H hi (hρ x) (ho lo) (ho hi2) (ho mx) hc) rfl rfl (fun _ => rfl)
  case fieldAddr t x f =>
    obtain ⟨i, hi, he⟩ := withTy_spec he
    obtain ⟨c, hc, he⟩ := map_some he
    cases he
    exact same (fieldAddr_sound H hi (hρ x) hc) rfl rfl (fun _ => rfl)
  case field t x f =>
    obtain ⟨i, hi, he⟩ := withTy_spec he
    obtain ⟨c, hc, he⟩ := map_some he
    cases he
    exact same (field_sound hi (hρ x) hc) rfl rfl (fun _ => rfl)
  case indexAddr t x ix =>
    obtain ⟨i, hi, he⟩ := withTy_spec he
    obtain ⟨c, hc, he⟩ := map_some he
    cases he
    exact same (indexAddr_sound H hi (hρ x) (hρ ix) hc) rfl rfl (fun _ => rfl)
  case index t x ix =>
    obtain ⟨i, hi, he⟩ := withTy_spec he
    obtain ⟨c, hc, he⟩ := map_some he
    cases he
    exact same (index_sound hi (hρ x) (hρ ix) hc) rfl rfl (fun _ => rfl)
  case extract x j =>
    obtain ⟨c, hc, he⟩ := map_some he
    cases he
    exact same (extract_sound (hρ x) hc) rfl rfl (fun _ => rfl)
  case call c =>
    obtain ⟨callee, args, argTypes⟩ := c
    cases callee <;> simp only at he <;> try (cases he; done)
    rename_i b
    obtain ⟨args⟩ := args
    obtain ⟨ts⟩ := argTypes
    simp only at he
    unfold bltA at he
    split at he
    · rename_i x t h1
      obtain ⟨i, hi, he⟩ := withTy_spec he
      obtain ⟨n, hn, he⟩ := map_some he
      cases he
      match args, h1 with
      | [a], h1 =>
        simp only [List.map_cons, List.map_nil, List.cons.injEq, and_true] at h1
        subst h1
        have := len_sound (P := P) (ty := ty) H hi (hρ a) hn
        exact ⟨M, .value (.int .i64 n), by simp [execOp, resolve, invoke, builtin, this], Mem.le.refl M, rfl, H, rfl⟩
    · rename_i x y t t2 h1
      obtain ⟨i, hi, he⟩ := withTy_spec he
      obtain ⟨i2, hi2, he⟩ := withTy_spec he
      match args, h1 with
      | [a, b], h1 =>
        simp only [List.map_cons, List.map_nil, List.cons.injEq, and_true] at h1
        obtain ⟨rfl, rfl⟩ := h1
        obtain ⟨M', u, q1, q2, q3, q4, q5⟩ := append_sound (ty := ty) H hi hi2 (hρ a) (hρ b) he
        exact ⟨M', .value u, by simp [execOp, resolve, invoke, builtin, q1], q2, q3, q4, q5⟩
    · rename_i x y t t2 h1
      obtain ⟨i, hi, he⟩ := withTy_spec he
      match args, h1 with
      | [a, b], h1 =>
        simp only [List.map_cons, List.map_nil, List.cons.injEq, and_true] at h1
        obtain ⟨rfl, rfl⟩ := h1
        obtain ⟨M', u, q1, q2, q3, q4, q5⟩ := copy_sound (t2 := t2) (ty := ty) H hi (hρ a) (hρ b) he
        exact ⟨M', .value u, by simp [execOp, resolve, invoke, builtin, q1], q2, q3, q4, q5⟩
    · rename_i ts0 _ _ tl x y h1
      obtain ⟨n, hn, he⟩ := map_some he
      cases he
      match args, h1 with
      | [a, b], h1 =>
        simp only [List.map_cons, List.map_nil, List.cons.injEq, and_true] at h1
        obtain ⟨rfl, rfl⟩ := h1
        obtain ⟨u, q1, q2⟩ := max_sound (P := P) (ts := ⟨ts0⟩) (ty := ty) (hρ a) (hρ b) hn
        exact ⟨M, .value u, by simp [execOp, resolve, invoke, builtin, q1], Mem.le.refl M, rfl, H, q2⟩
    · rename_i ts0 _ _ tl x y h1
      obtain ⟨n, hn, he⟩ := map_some he
      cases he
      match args, h1 with
      | [a, b], h1 =>
        simp only [List.map_cons, List.map_nil, List.cons.injEq, and_true] at h1
        obtain ⟨rfl, rfl⟩ := h1
        obtain ⟨u, q1, q2⟩ := min_sound (P := P) (ts := ⟨ts0⟩) (ty := ty) (hρ a) (hρ b) hn
        exact ⟨M, .value u, by simp [execOp, resolve, invoke, builtin, q1], Mem.le.refl M, rfl, H, q2⟩
    · cases he

end Go.Am
