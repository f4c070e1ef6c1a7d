/-
  AmD: AmFrozen
-/
import Derived.Test.YtgefihgogfkjoaaAmC
set_option linter.unusedSimpArgs false
set_option linter.unusedVariables false
/-! 'Am', part 27: a drawn region of which some operations are frozen: their answers speak of no memory of the call's own, so that their order is no matter. -/
namespace Go.Am
variable {P : Program} {X : Ctx}

/-- Frozen: by the slot. -/
def fz (Z : List Tmp) (d : Option Tmp) : Bool := match d with | some d => Z.contains d | none => false
def frzOut (x : AV × HP) : Option AV := if noRef (view x.2 x.1) = true then some (view x.2 x.1) else none
def noRefO (o : Option AV) : Bool := match o with | some a => noRef a | none => true
def frzX (P : Program) (op : Op) (ρ : Operand → AV) : Option AV :=
  match op with
  | .buildSlice t n ps => if noRefs (ps.toList.map fun p => ρ p.2) = true then withTy P t fun i => (buildSliceA P i ⟨noBk, 0⟩ n (evParts ρ ps)).bind frzOut else none
  | .slice t x lo hi mx => if (noRef (ρ x) && noRefO (lo.map ρ) && noRefO (hi.map ρ) && noRefO (mx.map ρ)) = true then withTy P t fun i => (sliceA i ⟨noBk, 0⟩ (ρ x) (lo.map ρ) (hi.map ρ) (mx.map ρ)).bind fun v => frzOut (v, ⟨noBk, 0⟩) else none
  | .convert s d (.tmp x) => if s = d then withTy P s fun i => match i.td, ρ (.tmp x) with
    | .slice e _ _ _, .ro n (c :: cs) => if u8T P e = true then some (.ro n (c :: cs)) else none
    | _, _ => none else none
  | _ => none
/-- Its slot holds a slice of a block that the call has made. -/
def Fresh (X : Ctx) (a : Act) (t : Nat) : Prop := ∃ b n cap, a.tmps.getD t undef = .slice (some ⟨b, 0, none⟩) n cap ∧ X.w0.heap.size ≤ b

theorem noRefs_mem : ∀ {l : List AV} {a : AV}, noRefs l = true → a ∈ l → noRef a = true
  | _ :: l, a, h, hm => by
    simp only [noRefs, Bool.and_eq_true] at h
    cases hm with
    | head => exact h.1
    | tail _ hm => exact noRefs_mem h.2 hm

theorem put_keep {a : Act} {dst : Option Tmp} {u : Value} {t : Nat} (h : dst ≠ some t) : (a.put dst u).tmps.getD t undef = a.tmps.getD t undef := by
  cases dst with
  | none => rfl
  | some d => simp [Act.put, Array.getElem?_setIfInBounds_ne (show d ≠ t from fun he => h (by rw [he]))]
theorem put_at {N : Nat} {σ : AS} {M : Mem} {a : Act} (R : Rel N X σ M a) {t : Nat} {u : Value} (h : t < N) : (a.put (some t) u).tmps.getD t undef = u := by
  simp [Act.put, Array.getD, R.size, h]

/-- What is carried out with operands that speak of no memory of the call's own. -/
theorem frzG_sound {N : Nat} {σ : AS} {M : Mem} {a : Act} (R : Rel N X σ M a) (o : Oper) (hop : ∀ x ∈ o.op.operands, noRef (σ.ev x) = true) {v : AV} {h' : HP} (he : exec P o.op σ.ev ⟨noBk, 0⟩ = some (v, h')) {r : AV} (hr : frzOut (v, h') = some r) :
    ∃ nx w', (execOp a.eval o).run P M.w = .ok nx w' ∧ Ext M.w w' ∧ NextRel { M with w := w' } r nx ∧ (∀ es m u n cs, v = .sl 0 0 es m → nx = .value u → r = .ro n cs → ∃ b cap, u = .slice (some ⟨b, 0, none⟩) m cap ∧ M.w.heap.size ≤ b) := by
  let O0 : Nat → Prop := fun b => M.O b ∨ ∃ id, M.D id ∧ M.φ id = b
  let M0 : Mem := Mem.callee O0 M.w
  let X0 : Ctx := ⟨M.w, fun _ => False, 0, M0, []⟩
  have hO : ∀ b, O0 b → b < M.w.heap.size := fun b hb => by
    rcases hb with hb | ⟨id, hD, rfl⟩
    · exact Nat.lt_of_lt_of_le (R.heap.old b hb) R.heap.kept.size
    · exact R.heap.φ_lt hD
  have H0 : HRel X0 ⟨noBk, 0⟩ M0 := ⟨rfl, fun id => ⟨fun h => h.elim, fun h => by simp [noBk] at h⟩, fun id h => h.elim, fun id k hk => by simp [noBk] at hk, fun _ _ h => h.elim,
      ⟨rfl, rfl, rfl, Nat.le_refl _, fun _ _ _ => rfl⟩, hO, fun id h => h.elim⟩
  have hs : M.sees M0 := ⟨rfl, fun b hb => ⟨fun _ hD => hD.elim, fun ho => by
      rcases ho with ho | ⟨id, hD, he⟩
      · exact hb.2 ho
      · exact hb.1 id hD he⟩⟩
  let ρm : Operand → AV := fun x => if noRef (σ.ev x) = true then σ.ev x else .dead
  have hρ : ∀ x, VRel M0 true (ρm x) (a.eval x) := fun x => by
    by_cases hx : noRef (σ.ev x) = true
    · simp only [ρm, hx, if_true]; exact VRel.sees hs _ _ hx (ev_rel R x)
    · simp only [ρm, hx]; exact trivial
  have he' : exec P o.op ρm ⟨noBk, 0⟩ = some (v, h') := by
    rw [← he]
    exact exec_congr fun x hx => by simp [ρm, hop x hx]
  obtain ⟨M', nx, q1, q2, q3, q4, q5⟩ := exec_sound H0 o hρ he'
  have hE : Ext M.w M'.w := ⟨q4.kept.os, q4.kept.tape, q4.kept.output, q4.kept.size, fun k hk => q4.kept.block k hk fun h => h⟩
  have hs2 : (Mem.callee M'.O M'.w).sees { M with w := M'.w } := ⟨rfl, fun b hb => by
    have hb2 : ¬ O0 b := by have := hb.2; rwa [show (Mem.callee M'.O M'.w).O = M'.O from rfl, q3] at this
    exact ⟨fun id hD he => hb2 (.inr ⟨id, hD, he⟩), fun ho => hb2 (.inl ho)⟩⟩
  unfold frzOut at hr
  simp only at hr
  split at hr
  · rename_i hn
    cases hr
    refine ⟨nx, M'.w, q1, hE, ?_, ?_⟩
    · cases nx with
      | value u => exact VRel.sees hs2 _ _ hn (view_rel q4 q5)
      | skip =>
        simp only [NextRel] at q5
        subst q5
        rfl
      | _ => exact q5.elim
    · rintro es m u n cs rfl rfl hro
      simp only [NextRel] at q5
      obtain ⟨_, _, _, h7⟩ := q5
      by_cases hD : M'.D 0
      · obtain ⟨cap, e, sz, hu, _⟩ := h7 hD
        rcases (q4.own 0 hD).1 with h | h
        · exact ⟨_, cap, hu, h⟩
        · exact h.elim
      · exfalso
        have hb : h'.bk 0 = none := by
          cases hb : h'.bk 0 with
          | none => rfl
          | some b => exact (hD ((q4.dom 0).2 (by simp [hb]))).elim
        simp [view, view1, srcA, hb] at hro
  · cases hr
/-- A conversion of a frozen slice of bytes: only the block's mark is another one. -/
theorem frzC_sound {N : Nat} {σ : AS} {M : Mem} {a : Act} (R : Rel N X σ M a) {o : Oper} {s : TypeId} {x : Tmp} (hop : o.op = .convert s s (.tmp x)) {i : TyI} (hi : tyI P s = some i) {e es eb : Nat} {ea : Bool} (htd : i.td = .slice e es ea eb)
    {n : Nat} {c : AV} {cs : List AV} (hx : σ.tm x = .ro n (c :: cs)) (hu : u8T P e = true) (hF : Fresh X a x) :
    ∃ u w', (execOp a.eval o).run P M.w = .ok (.value u) w' ∧ M.le { M with w := w' } ∧ HRel X σ.h { M with w := w' } ∧ VRel { M with w := w' } true (.ro n (c :: cs)) u := by
  obtain ⟨d, hd, hd2, hd3⟩ := run_underlyingI M.w hi
  obtain ⟨rfl, he⟩ := TD_slice (hd3.symm.trans htd)
  have hv := R.tm x
  rw [hx] at hv
  obtain ⟨base, cap, hv1, hnc, hv2⟩ := hv
  obtain ⟨b, n2, cap2, hf1, hf2⟩ := hF
  rw [hv1] at hf1
  obtain ⟨h1, h2, h3⟩ : base = some ⟨b, 0, none⟩ ∧ n = n2 ∧ cap = cap2 := by simpa using hf1
  subst h1 h2 h3
  rcases hv2 with hv2 | ⟨b', off, C, el, fz, hb, hh, hfree, hp⟩
  · cases hv2
  obtain ⟨rfl, rfl⟩ : b = b' ∧ 0 = off := by simpa using hb
  obtain ⟨w', fz', q1, q2, q3, q4, q5, q6, q7⟩ := run_freeze_shape (P := P) hh
  have hne : ∀ j, M.D j → M.φ j ≠ b := hfree.1
  have hle : M.le { M with w := w' } := by
    refine ⟨Nat.le_refl _, fun j _ hj => ⟨hj, rfl, ?_⟩, fun b2 C2 e2 fz2 hf hh2 => ?_⟩
    · show w'.shape? (M.φ j) = _
      simp only [World.shape?, q7 _ (hne j hj)]
    · by_cases hbb : b2 = b
      · subst hbb
        rw [hh] at hh2
        cases hh2
        exact ⟨⟨fz', q6⟩, hf⟩
      · exact ⟨⟨fz2, by show w'.heap[b2]? = _; rw [q7 _ hbb]; exact hh2⟩, hf⟩
  refine ⟨.slice (some ⟨b, 0, none⟩) n cap, w', ?_, hle, ⟨R.heap.n, R.heap.dom, R.heap.lt, fun j kj hj => ?_, R.heap.inj, ⟨q2.trans R.heap.kept.os, q3.trans R.heap.kept.tape, q4.trans R.heap.kept.output, by show _ ≤ w'.heap.size; rw [q5]; exact R.heap.kept.size, fun b2 hb2 hS => ?_⟩, R.heap.old, R.heap.own⟩,
    VRel.mono hle _ _ ⟨_, cap, rfl, hnc, .inr ⟨b, 0, C, el, fz, rfl, hh, hfree, hp⟩⟩⟩
  · have hev : a.eval (.tmp x) = .slice (some ⟨b, 0, none⟩) n cap := hv1
    simp only [execOp, hop]
    simp [convert, hev, hd, run_underlying (u8T_spec hu), q1]
  · have hD : M.D j := (R.heap.dom j).2 (by simp [hj])
    obtain ⟨C2, e2, r1, r2, r3⟩ := R.heap.bk j kj hj
    exact ⟨C2, e2, by show w'.heap[M.φ j]? = _; rw [q7 _ (hne j hD)]; exact r1, VPreR.mono hle _ _ r2, r3⟩
  · show w'.heap[b2]? = _
    rw [q7 b2 (by omega)]
    exact R.heap.kept.block b2 hb2 hS

/-! ### Steps -/
def EffZ (P : Program) (Z : List Tmp) (ops : List Oper) (o : Oper) (tm : Nat → AV) (h : HP) (v : AV) (h' : HP) : Prop :=
  if fz Z o.dst = true then (match guardA ops o tm with
    | some true => frzX P o.op (AS.mk tm h).ev = some v
    | some false => v = .tup []
    | none => False) ∧ h' = h else AEff P ops o tm h v h'
def StepZ (P : Program) (Z : List Tmp) (ops : List Oper) (i : Nat) (σ σ' : AS) : Prop :=
  match ops[i]? with
  | none => σ' = σ
  | some o => ∃ v h', EffZ P Z ops o σ.tm σ.h v h' ∧ σ' = (AS.mk σ.tm h').put o.dst v
def StepsZ (P : Program) (Z : List Tmp) (ops : List Oper) : List Nat → AS → AS → Prop
  | [], σ, σ' => σ' = σ
  | i :: l, σ, σ' => ∃ τ, StepZ P Z ops i σ τ ∧ StepsZ P Z ops l τ σ'
variable {Z : List Tmp}
theorem stepZ_iff {ops : List Oper} {i : Nat} {o : Oper} (ho : ops[i]? = some o) (σ σ' : AS) : StepZ P Z ops i σ σ' ↔ ∃ v h', EffZ P Z ops o σ.tm σ.h v h' ∧ σ' = (AS.mk σ.tm h').put o.dst v := by
  unfold StepZ; rw [ho]
theorem stepZ_a {ops : List Oper} {i : Nat} {o : Oper} (ho : ops[i]? = some o) (hz : fz Z o.dst = false) {σ σ' : AS} : StepZ P Z ops i σ σ' ↔ AStep P ops i σ σ' := by
  rw [stepZ_iff ho, astep_iff ho]
  simp only [EffZ, hz, Bool.false_eq_true, if_false]

theorem withTy_congr {α : Type} {t : TypeId} {f g : TyI → Option α} (h : ∀ i, f i = g i) : withTy P t f = withTy P t g := by
  unfold withTy
  cases tyI P t with
  | none => rfl
  | some i => exact h i
theorem frzX_congr {op : Op} {ρ ρ' : Operand → AV} (hx : ∀ x ∈ op.operands, ρ x = ρ' x) : frzX P op ρ = frzX P op ρ' := by
  unfold frzX
  cases op <;> try rfl
  case buildSlice t n ps =>
    have h1 : ps.toList.map (fun p => ρ p.2) = ps.toList.map (fun p => ρ' p.2) := List.map_congr_left fun p hp => hx _ (by simp only [Op.operands, List.mem_toArray, List.mem_map]; exact ⟨p, hp, rfl⟩)
    have h2 : evParts ρ ps = evParts ρ' ps := List.map_congr_left fun p hp => by rw [hx _ (by simp only [Op.operands, List.mem_toArray, List.mem_map]; exact ⟨p, hp, rfl⟩)]
    simp only [h1, h2]
  case slice t x lo hi mx =>
    have e : ∀ y : Option Operand, (∀ z, y = some z → ρ z = ρ' z) → y.map ρ = y.map ρ' := fun y hy => by
      cases y with
      | none => rfl
      | some z => simp [hy z rfl]
    have h0 := hx x (by simp [Op.operands])
    have h1 := e lo fun z hz => hx z (by subst hz; simp [Op.operands])
    have h2 := e hi fun z hz => hx z (by subst hz; simp [Op.operands])
    have h3 := e mx fun z hz => hx z (by subst hz; simp [Op.operands])
    simp only [h0, h1, h2, h3]
  case convert s d x =>
    cases x <;> try rfl
    rename_i x
    have h0 := hx (.tmp x) (by simp [Op.operands])
    simp only [h0]
theorem effZ_congr {ops : Array Oper} {o : Oper} {tm tm' : Nat → AV} {h h' : HP} {v : AV} (hl : ∀ t ∈ o.looksAt ops, tm t = tm' t) (he : EffZ P Z ops.toList o tm h v h') : EffZ P Z ops.toList o tm' h v h' := by
  unfold EffZ at he ⊢
  split at he
  · rename_i hz
    rw [if_pos hz, ← guard_congr hl, ← frzX_congr (ρ := (AS.mk tm h).ev) fun x hx => ev_congr x fun t ht => hl t (mem_looksAt (ht ▸ hx))]
    exact he
  · rename_i hz
    rw [if_neg hz]
    exact aeff_congr hl he
theorem effZ_pure {ops : List Oper} {o : Oper} {tm : Nat → AV} {h h' : HP} {v : AV} (hz : fz Z o.dst = true) (he : EffZ P Z ops o tm h v h') : h' = h ∧ ∀ k, EffZ P Z ops o tm k v k := by
  unfold EffZ at he ⊢
  rw [if_pos hz] at he
  refine ⟨he.2, fun k => ?_⟩
  rw [if_pos hz]
  refine ⟨?_, rfl⟩
  have e : (AS.mk tm k).ev = (AS.mk tm h).ev := by funext x; exact ev_congr x fun _ _ => rfl
  rw [e]
  exact he.1
theorem stepZ_tidy {ops : List Oper} {i : Nat} {σ σ' : AS} (ht : σ.h.tidy) (hs : StepZ P Z ops i σ σ') : σ'.h.tidy := by
  cases ho : ops[i]? with
  | none => unfold StepZ at hs; rw [ho] at hs; simp only at hs; subst hs; exact ht
  | some o =>
    cases hz : fz Z o.dst with
    | true =>
      obtain ⟨v, h', he, rfl⟩ := (stepZ_iff ho _ _).1 hs
      rw [put_h, (effZ_pure hz he).1]; exact ht
    | false => exact astep_tidy ht ((stepZ_a ho hz).1 hs)
theorem stepZ_comm {ops : Array Oper} {i j : Nat} {oi oj : Oper} (hi : ops[i]? = some oi) (hj : ops[j]? = some oj) (hap : oi.apart ops oj = true) (hp : fz Z oi.dst = true ∨ fz Z oj.dst = true) {σ σ1 σ2 : AS}
    (h1 : StepZ P Z ops.toList i σ σ1) (h2 : StepZ P Z ops.toList j σ1 σ2) : ∃ σ1', StepZ P Z ops.toList j σ σ1' ∧ StepZ P Z ops.toList i σ1' σ2 := by
  have hi' : ops.toList[i]? = some oi := by simpa using hi
  have hj' : ops.toList[j]? = some oj := by simpa using hj
  obtain ⟨v1, k1, e1, rfl⟩ := (stepZ_iff hi' _ _).1 h1
  obtain ⟨v2, k2, e2, rfl⟩ := (stepZ_iff hj' _ _).1 h2
  obtain ⟨a1, a2, a3⟩ := Oper.apart_spec hap
  have tm_put : ∀ (τ : AS) (d : Option Tmp) (v : AV) (t : Nat), (∀ x, d = some x → t ≠ x) → (τ.put d v).tm t = τ.tm t := by
    intro τ d v t h
    cases d with
    | none => rfl
    | some x => exact upd_other _ _ _ _ (h x rfl)
  rw [put_h] at e2
  simp only at e2
  have e2' : EffZ P Z ops.toList oj σ.tm k1 v2 k2 := effZ_congr (fun t ht => tm_put (AS.mk σ.tm k1) oi.dst v1 t fun x hx hxt => a1 x hx (hxt ▸ ht)) e2
  have put_put : ∀ (k h : HP), (AS.mk ((AS.mk σ.tm k).put oi.dst v1).tm k2).put oj.dst v2 = (AS.mk ((AS.mk σ.tm h).put oj.dst v2).tm k2).put oi.dst v1 := by
    intro k h
    cases hdi : oi.dst with
    | none => cases oj.dst <;> rfl
    | some x =>
      cases hdj : oj.dst with
      | none => rfl
      | some y => exact congrArg (fun f => AS.mk f k2) (upd_comm _ _ _ _ _ (fun he => a2 x hdi (he ▸ hdj)))
  have back : ∀ {h : HP}, EffZ P Z ops.toList oi σ.tm h v1 k2 → EffZ P Z ops.toList oi ((AS.mk σ.tm h).put oj.dst v2).tm h v1 k2 := fun {h} he =>
    effZ_congr (tm := σ.tm) (fun t ht => (tm_put (AS.mk σ.tm h) oj.dst v2 t fun x hx hxt => a3 x hx (hxt ▸ ht)).symm) he
  rcases hp with hz | hz
  · obtain ⟨q1, q2⟩ := effZ_pure hz e1
    subst q1
    exact ⟨(AS.mk σ.tm k2).put oj.dst v2, (stepZ_iff hj' _ _).2 ⟨v2, k2, e2', rfl⟩, (stepZ_iff hi' _ _).2 ⟨v1, k2, by rw [put_h]; exact back (q2 k2), put_put _ _⟩⟩
  · obtain ⟨q1, q2⟩ := effZ_pure hz e2'
    subst q1
    exact ⟨(AS.mk σ.tm σ.h).put oj.dst v2, (stepZ_iff hj' _ _).2 ⟨v2, σ.h, q2 σ.h, rfl⟩, (stepZ_iff hi' _ _).2 ⟨v1, k2, by rw [put_h]; exact back e1, put_put _ _⟩⟩
def passZ (Z : List Tmp) (ops : Array Oper) (oj oi : Oper) : Bool := (oj.apart ops oi && (fz Z oj.dst || fz Z oi.dst)) || (!fz Z oj.dst && !fz Z oi.dst && indep2 ops oj oi)
theorem stepZ_pass {ops : Array Oper} {i j : Nat} {oi oj : Oper} (hj : ops[j]? = some oj) (hi : ops[i]? = some oi) (hp : passZ Z ops oj oi = true) {σ σ1 σ2 : AS} (ht : σ.h.tidy)
    (h1 : StepZ P Z ops.toList j σ σ1) (h2 : StepZ P Z ops.toList i σ1 σ2) : ∃ σ1', StepZ P Z ops.toList i σ σ1' ∧ StepZ P Z ops.toList j σ1' σ2 := by
  unfold passZ at hp
  simp only [Bool.or_eq_true, Bool.and_eq_true, Bool.not_eq_true'] at hp
  rcases hp with ⟨hap, hz⟩ | ⟨⟨hz1, hz2⟩, hind⟩
  · exact stepZ_comm hj hi hap hz h1 h2
  · have hi' : ops.toList[i]? = some oi := by simpa using hi
    have hj' : ops.toList[j]? = some oj := by simpa using hj
    obtain ⟨σ1', p1, p2⟩ := astep_comm2 hj hi hind ht ((stepZ_a hj' hz1).1 h1) ((stepZ_a hi' hz2).1 h2)
    exact ⟨σ1', (stepZ_a hi' hz2).2 p1, (stepZ_a hj' hz1).2 p2⟩
theorem stepsZ_front {ops : Array Oper} {i : Nat} {oi : Oper} (hi : ops[i]? = some oi) : ∀ (l1 l2 : List Nat) (σ σ' : AS), σ.h.tidy → StepsZ P Z ops.toList (l1 ++ i :: l2) σ σ' →
    (∀ j ∈ l1, ∃ oj, ops[j]? = some oj ∧ passZ Z ops oj oi = true) → ∃ τ, StepZ P Z ops.toList i σ τ ∧ StepsZ P Z ops.toList (l1 ++ l2) τ σ'
  | [], l2, σ, σ', _, h, _ => h
  | j :: l1, l2, σ, σ', ht, ⟨τ, h1, h2⟩, hf => by
    obtain ⟨τ2, h3, h4⟩ := stepsZ_front hi l1 l2 τ σ' (stepZ_tidy ht h1) h2 fun k hk => hf k (.tail _ hk)
    obtain ⟨oj, hj, hp⟩ := hf j (.head _)
    obtain ⟨τ3, h5, h6⟩ := stepZ_pass hj hi hp ht h1 h3
    exact ⟨τ3, h5, τ2, h6, h4⟩

theorem stepZ_sound {N : Nat} {M : Mem} {σ σ' : AS} {a : Act} (R : Rel N X σ M a) {ops : Array Oper} {i : Nat} (hs : StepZ P Z ops.toList i σ σ') (hd : ∀ o d, ops[i]? = some o → o.dst = some d → d < N)
    (hF : ∀ o s d x n c cs, ops[i]? = some o → fz Z o.dst = true → o.op = .convert s d (.tmp x) → σ.tm x = .ro n (c :: cs) → Fresh X a x) {Q : Exit → Act → World → Prop} {K : Act → World → Prop}
    (hK : ∀ M' a', Rel N X σ' M' a' → M'.O = M.O → (∀ t, (∀ o, ops[i]? = some o → o.dst ≠ some t) → σ'.tm t = σ.tm t ∧ a'.tmps.getD t undef = a.tmps.getD t undef) →
      (∀ o t ty m ps n c cs, ops[i]? = some o → fz Z o.dst = true → o.op = .buildSlice ty m ps → o.dst = some t → σ'.tm t = .ro n (c :: cs) → Fresh X a' t) → K a' M'.w) : wpOp P ops Q i K a M.w := by
  unfold wpOp
  cases ho : ops[i]? with
  | none =>
    have : ops.toList[i]? = none := by simpa using ho
    unfold StepZ at hs
    simp only [this] at hs
    subst hs
    exact hK M a R rfl (fun _ _ => ⟨rfl, rfl⟩) (fun o t ty m ps n c cs h => by rw [ho] at h; cases h)
  | some o =>
    have hol : ops.toList[i]? = some o := by simpa using ho
    have keep : ∀ (h' : HP) (v : AV) (t : Nat), (∀ o', ops[i]? = some o' → o'.dst ≠ some t) → ((AS.mk σ.tm h').put o.dst v).tm t = σ.tm t := fun h' v t h => by
      have := h o ho
      cases hdd : o.dst with
      | none => rfl
      | some x => exact upd_other _ _ _ _ fun he => this (by rw [hdd, he])
    have keepA : ∀ (u : Value) (t : Nat), (∀ o', ops[i]? = some o' → o'.dst ≠ some t) → (a.put o.dst u).tmps.getD t undef = a.tmps.getD t undef := fun u t h => put_keep (h o ho)
    simp only
    cases hz : fz Z o.dst with
    | false =>
      have hs := (stepZ_a hol hz).1 hs
      unfold AStep at hs
      simp only [hol] at hs
      have noB : ∀ (a' : Act) (o' : Oper) (t : Tmp) (ty : TypeId) (m : Nat) (ps : Array (Nat × Operand)) (n : Nat) (c : AV) (cs : List AV), ops[i]? = some o' → fz Z o'.dst = true → o'.op = .buildSlice ty m ps → o'.dst = some t → σ'.tm t = .ro n (c :: cs) → Fresh X a' t := fun a' o' t ty m ps n c cs h1 h2 => by
        rw [ho] at h1; cases h1; rw [hz] at h2; cases h2
      split at hs
      · rename_i hg
        rw [wanted_rel R hg]
        simp only [if_true]
        left
        unfold AExec at hs
        split at hs
        · rename_i f args ts hop
          obtain ⟨g, first, caps, r, fn, hfn, hnm, hbd, hf, hc, rfl⟩ := hs
          have hfr := ev_rel R f
          rw [hf] at hfr
          obtain ⟨lf, lc, hfv, h1, h2⟩ := hfr
          have hargs : VRels M true (args.toList.map σ.ev) (args.toList.map a.eval) := by
            generalize args.toList = l
            induction l with
            | nil => rfl
            | cons x l ih => exact ⟨_, _, rfl, ev_rel R x, ih⟩
          have hcall := callOk_sound R.heap hc (VRels.append (VRels.append h1 hargs) h2)
          have hex : (execOp a.eval o).run P M.w = .ok (.enter g ⟨lf ++ args.toList.map a.eval ++ lc⟩) M.w := by
            have e1 : (⟨lf⟩ ++ Array.map a.eval args ++ ⟨lc⟩ : Array Value) = ⟨lf ++ args.toList.map a.eval ++ lc⟩ := by
              apply Array.ext'; simp
            simp only [execOp, hop, Sem.run_bind, resolve, hfv, Deferred.ofValue, Sem.run_pure, Result.andThen_ok, invoke, callFunc, run_program, hfn, Sem.run_ite, hbd]
            simp [hnm, e1]
          unfold Oper.wp
          rw [hex]
          unfold Oper.upon
          refine hcall.mono ?_
          rintro e w' ⟨v, rfl, hx, hr⟩
          have HE := R.heap.ext hx
          exact hK { M with w := w' } _ (put_rel R HE.1 HE.2 (fun d hdd => hd o d ho hdd) hr) rfl (fun t h => ⟨keep _ _ t h, keepA _ t h⟩) (noB _)
        · rename_i op hne
          obtain ⟨v, h', he, rfl⟩ := hs
          obtain ⟨M', nx, q1, q2, q3, q4, q5⟩ := exec_sound R.heap o (fun x => ev_rel R x) he
          unfold Oper.wp
          rw [q1]
          cases nx <;> simp only [NextRel] at q5
          · exact hK M' _ (put_rel R q2 q4 (fun d hdd => hd o d ho hdd) q5) q3 (fun t h => ⟨keep _ _ t h, keepA _ t h⟩) (noB _)
          · subst q5
            exact hK M' _ (put_rel R q2 q4 (fun d hdd => hd o d ho hdd) (u := undef) trivial) q3 (fun t h => ⟨keep _ _ t h, keepA _ t h⟩) (noB _)
      · rename_i hg
        rw [wanted_rel R hg]
        subst hs
        simp only [Bool.false_eq_true, if_false]
        exact hK M _ (put_rel R (Mem.le.refl M) R.heap (fun d hdd => hd o d ho hdd) (u := undef) ⟨[], rfl, rfl⟩) rfl (fun t h => ⟨keep _ _ t h, keepA _ t h⟩) (noB _)
      · exact hs.elim
    | true =>
      obtain ⟨v, h', he, rfl⟩ := (stepZ_iff hol _ _).1 hs
      unfold EffZ at he
      rw [if_pos hz] at he
      obtain ⟨he, rfl⟩ := he
      split at he
      · rename_i hg
        rw [wanted_rel R hg]
        simp only [if_true]
        left
        have main : ∀ (w : AV × HP), (∀ x ∈ o.op.operands, noRef (σ.ev x) = true) → exec P o.op σ.ev ⟨noBk, 0⟩ = some w → frzOut w = some v → (∀ ty m ps, o.op = .buildSlice ty m ps → ∃ es n, w.1 = .sl 0 0 es n) → Oper.wp P o a M.w K Q := by
          rintro ⟨v0, h0⟩ hop hex hout hb
          obtain ⟨nx, w', q1, q2, q3, q4⟩ := frzG_sound R o hop hex hout
          have HE := R.heap.ext q2
          unfold Oper.wp
          rw [q1]
          cases nx <;> simp only [NextRel] at q3
          · rename_i u
            refine hK { M with w := w' } _ (put_rel (h' := σ.h) R HE.1 HE.2 (fun d hdd => hd o d ho hdd) q3) rfl (fun t h => ⟨keep _ _ t h, keepA _ t h⟩) ?_
            intro o' t ty m ps n c cs h1 h2 h3 h4 h5
            rw [ho] at h1; cases h1
            obtain ⟨es, m', hsl⟩ := hb _ _ _ h3
            simp only at hsl
            rw [h4] at h5
            have h5 : v = .ro n (c :: cs) := by
              have : (upd σ.tm t v) t = .ro n (c :: cs) := h5
              rwa [upd_same] at this
            obtain ⟨b, cap, e1, e2⟩ := q4 es m' u n (c :: cs) hsl rfl h5
            exact ⟨b, m', cap, by rw [h4, put_at R (hd o t ho h4)]; exact e1, Nat.le_trans R.heap.kept.size e2⟩
          · subst q3
            refine hK { M with w := w' } _ (put_rel (h' := σ.h) R HE.1 HE.2 (fun d hdd => hd o d ho hdd) (u := undef) trivial) rfl (fun t h => ⟨keep _ _ t h, keepA _ t h⟩) ?_
            intro o' t ty m ps n c cs h1 h2 h3 h4 h5
            rw [ho] at h1; cases h1
            rw [h4] at h5
            have : (upd σ.tm t .dead) t = .ro n (c :: cs) := h5
            rw [upd_same] at this
            cases this
        unfold frzX at he
        split at he
        · rename_i t n ps hop
          split at he
          · rename_i hn
            obtain ⟨ti, hti, he⟩ := withTy_spec he
            obtain ⟨w, hw, hout⟩ := Option.bind_eq_some_iff.1 he
            refine main w (fun x hx => ?_) (by rw [hop]; simp only [exec, withTy, hti]; exact hw) hout ?_
            · rw [hop] at hx
              simp only [Op.operands, List.mem_toArray, List.mem_map] at hx
              obtain ⟨p, hp, rfl⟩ := hx
              exact noRefs_mem hn (List.mem_map.2 ⟨p, hp, rfl⟩)
            · intro ty m ps' h
              unfold buildSliceA at hw
              split at hw
              · split at hw
                · split at hw
                  · obtain ⟨cs, _, hw⟩ := map_some hw
                    subst hw
                    exact ⟨_, _, rfl⟩
                  · cases hw
                · cases hw
              · cases hw
          · cases he
        · rename_i t x lo hi mx hop
          split at he
          · rename_i hn
            simp only [Bool.and_eq_true] at hn
            obtain ⟨⟨⟨h1, h2⟩, h3⟩, h4⟩ := hn
            obtain ⟨ti, hti, he⟩ := withTy_spec he
            obtain ⟨w, hw, hout⟩ := Option.bind_eq_some_iff.1 he
            refine main (w, ⟨noBk, 0⟩) (fun y hy => ?_) (by rw [hop]; simp only [exec, withTy, hti]; rw [hw]; rfl) hout (fun ty m ps h => by rw [hop] at h; cases h)
            rw [hop] at hy
            have on : ∀ z : Option Operand, noRefO (z.map σ.ev) = true → y ∈ z.toArray → noRef (σ.ev y) = true := fun z hz hy => by
              cases z with
              | none => simp at hy
              | some z => simp at hy; subst hy; exact hz
            simp only [Op.operands, Array.mem_append] at hy
            rcases hy with ((hy | hy) | hy) | hy
            · simp at hy; subst hy; exact h1
            · exact on _ h2 hy
            · exact on _ h3 hy
            · exact on _ h4 hy
          · cases he
        · rename_i s d x hop
          split at he
          · rename_i hsd
            subst hsd
            obtain ⟨ti, hti, he⟩ := withTy_spec he
            split at he
            · rename_i e es ea eb n c cs htd hx
              split at he
              · rename_i hu
                cases he
                have hx' : σ.tm x = .ro n (c :: cs) := hx
                obtain ⟨u, w', q1, q2, q3, q4⟩ := frzC_sound R hop hti htd hx' hu (hF o s s x n c cs ho hz hop hx')
                unfold Oper.wp
                rw [q1]
                refine hK { M with w := w' } _ (put_rel (h' := σ.h) R q2 q3 (fun d hdd => hd o d ho hdd) q4) rfl (fun t h => ⟨keep _ _ t h, keepA _ t h⟩) ?_
                intro o' t ty m ps n c cs h1 h2 h3 h4 h5
                rw [ho] at h1; cases h1
                rw [hop] at h3; cases h3
              · cases he
            · cases he
          · cases he
        · cases he
      · rename_i hg
        subst he
        rw [wanted_rel R hg]
        simp only [Bool.false_eq_true, if_false]
        refine hK M _ (put_rel R (Mem.le.refl M) R.heap (fun d hdd => hd o d ho hdd) (u := undef) ⟨[], rfl, rfl⟩) rfl (fun t h => ⟨keep _ _ t h, keepA _ t h⟩) ?_
        intro o' t ty m ps n c cs h1 h2 h3 h4 h5
        rw [ho] at h1; cases h1
        rw [h4] at h5
        have : (upd σ.tm t (.tup [])) t = .ro n (c :: cs) := h5
        rw [upd_same] at this
        cases this
      · exact he.elim

/-! ### The region -/
def isBuildS : Op → Bool
  | .buildSlice _ _ _ => true
  | _ => false
def regionOkZ (N : Nat) (ops : Array Oper) (Z : List Tmp) : Bool :=
  let b := beforeL ops.toList #[]
  (List.range ops.size).all fun i => match ops[i]? with
    | some o => (match o.dst with | some d => decide (d < N) | none => true) && o.after.toList.all (fun e => !Region.binds .any e || decide (e.on < i)) &&
        ((List.range i).all fun j => anc b i j || (match ops[j]? with | some oj => passZ Z ops oj o | none => true)) &&
        (!fz Z o.dst || match o.op with
          | .convert _ _ (.tmp x) => (List.range i).any fun j => anc b i j && (match ops[j]? with | some oj => fz Z oj.dst && isBuildS oj.op && oj.dst == some x | none => false)
          | .buildSlice _ _ _ => (List.range ops.size).all fun k => k == i || (match ops[k]? with | some ok => ok.dst != o.dst | none => true)
          | _ => true)
    | none => true

structure RegZ (N : Nat) (ops : Array Oper) (Z : List Tmp) : Prop where
  dst : ∀ (i : Nat) (o : Oper) (d : Nat), ops[i]? = some o → o.dst = some d → d < N
  back : ∀ (i : Nat) (o : Oper) (e : Edge), ops[i]? = some o → e ∈ o.after → Region.binds .any e = true → e.on < i
  pair : ∀ (i j : Nat) (oi oj : Oper), ops[i]? = some oi → ops[j]? = some oj → j < i → anc (beforeL ops.toList #[]) i j = false → passZ Z ops oj oi = true
  conv : ∀ (i : Nat) (o : Oper) (s d : TypeId) (x : Tmp), ops[i]? = some o → fz Z o.dst = true → o.op = .convert s d (.tmp x) → ∃ j oj, anc (beforeL ops.toList #[]) i j = true ∧ ops[j]? = some oj ∧ fz Z oj.dst = true ∧ (∃ ty m ps, oj.op = .buildSlice ty m ps) ∧ oj.dst = some x
  one : ∀ (i : Nat) (o : Oper) (ty : TypeId) (m : Nat) (ps : Array (Nat × Operand)), ops[i]? = some o → fz Z o.dst = true → o.op = .buildSlice ty m ps → ∀ k ok, k ≠ i → ops[k]? = some ok → ok.dst ≠ o.dst

theorem regZ_of {N : Nat} {ops : Array Oper} (h : regionOkZ N ops Z = true) : RegZ N ops Z := by
  unfold regionOkZ at h
  simp only [List.all_eq_true, List.mem_range] at h
  have key := fun (i : Nat) (o : Oper) (ho : ops[i]? = some o) => by
    have hi := h i (Array.getElem?_eq_some_iff.1 ho).1
    rw [ho] at hi
    simp only [Bool.and_eq_true, List.all_eq_true, List.mem_range] at hi
    exact hi
  refine ⟨fun i o d ho hd => ?_, fun i o e ho he hb => ?_, fun i j oi oj hi hj hlt hn => ?_, fun i o s d x ho hz hop => ?_, fun i o ty m ps ho hz hop k ok hk hok => ?_⟩
  · have := (key i o ho).1.1.1
    rw [hd] at this
    simpa using this
  · have := (key i o ho).1.1.2 e (by simpa using he)
    simpa [hb] using this
  · have := (key i oi hi).1.2 j hlt
    rw [hn, hj] at this
    simpa using this
  · have := (key i o ho).2
    rw [hz, hop] at this
    simp only [Bool.not_true, Bool.false_or, List.any_eq_true, List.mem_range, Bool.and_eq_true] at this
    obtain ⟨j, hj, h1, h2⟩ := this
    cases hoj : ops[j]? with
    | none => rw [hoj] at h2; cases h2
    | some oj =>
      rw [hoj] at h2
      simp only [Bool.and_eq_true, beq_iff_eq] at h2
      refine ⟨j, oj, h1, hoj, h2.1.1, ?_, h2.2⟩
      have hb := h2.1.2
      cases hop2 : oj.op <;> rw [hop2] at hb <;> simp [isBuildS] at hb
      exact ⟨_, _, _, rfl⟩
  · have := (key i o ho).2
    rw [hz, hop] at this
    simp only [Bool.not_true, Bool.false_or, List.all_eq_true, List.mem_range, Bool.or_eq_true, beq_iff_eq] at this
    have h2 := (this k (Array.getElem?_eq_some_iff.1 hok).1).resolve_left hk
    rw [hok] at h2
    simpa using h2

theorem anc_listedZ {N : Nat} {ops : Array Oper} (R : RegZ N ops Z) {listed : Array Bool} (hc : Closed ops listed) : ∀ (i : Nat) (o : Oper), ops[i]? = some o →
    (∀ e ∈ o.after, Region.binds .any e = true → listed.getD e.on false = true) → ∀ j, anc (beforeL ops.toList #[]) i j = true → listed.getD j false = true := by
  intro i
  induction i using Nat.strongRecOn with
  | _ i ih =>
    intro o ho he j hj
    have ho' : ops.toList[i]? = some o := by simpa using ho
    obtain ⟨acc', h1, h2⟩ := beforeL_new ops.toList #[] i o ho'
    simp only [List.size_toArray, List.length_nil, Nat.zero_add] at h1 h2
    unfold anc at hj
    rw [h2, oneB, testBit_fold] at hj
    simp only [Nat.zero_testBit, Bool.false_or, List.any_eq_true, Bool.and_eq_true, Bool.or_eq_true, beq_iff_eq] at hj
    obtain ⟨e, hm, hb, hjj⟩ := hj
    have hm' : e ∈ o.after := by simpa using hm
    have hlt := R.back i o e ho hm' hb
    have hl := he e hm' hb
    rcases hjj with rfl | hjj
    · exact hl
    · rw [h1 e.on hlt] at hjj
      have hsz : e.on < ops.size := Nat.lt_trans hlt (Array.getElem?_eq_some_iff.1 ho).1
      have hoe : ops[e.on]? = some ops[e.on] := Array.getElem?_eq_getElem hsz
      exact ih e.on hlt _ hoe (fun e' he' hb' => hc e.on _ e' hoe hl he' hb') j hjj
theorem nil_remZ {N : Nat} {ops : Array Oper} (R : RegZ N ops Z) : ∀ (listed : Array Bool), Region.ready .any ops listed = [] → remOf ops.size listed = [] := by
  intro listed hr
  rcases hrem : remOf ops.size listed with _ | ⟨i, l⟩
  · rfl
  · exfalso
    have hi : i ∈ remOf ops.size listed := by rw [hrem]; exact .head _
    have h1 := List.mem_filter.1 hi
    have hlt := List.mem_range.1 h1.1
    have hiu : listed.getD i true = false := by simpa using h1.2
    have : i ∈ Region.ready .any ops listed := by
      refine mem_ready.2 ⟨hiu, ops[i], Array.getElem?_eq_getElem hlt, fun e he hb => ?_⟩
      have hlt2 := R.back i _ e (Array.getElem?_eq_getElem hlt) he hb
      cases hle : listed.getD e.on false with
      | true => rfl
      | false =>
        exfalso
        have hsz : e.on < listed.size := by
          have : i < listed.size := by
            rcases Nat.lt_or_ge i listed.size with h | h
            · exact h
            · simp [Array.getD_eq_getD_getElem?, Array.getElem?_eq_none h] at hiu
          omega
        have heu : listed.getD e.on true = false := by
          simp [Array.getD_eq_getD_getElem?, hsz] at hle ⊢
          exact hle
        have hmem : e.on ∈ remOf ops.size listed := List.mem_filter.2 ⟨List.mem_range.2 (by omega), by simp [heu]⟩
        have hsorted : (remOf ops.size listed).Pairwise (· < ·) := List.Pairwise.filter _ List.pairwise_lt_range
        rw [hrem] at hmem hsorted
        cases hmem with
        | head => omega
        | tail _ h => have := List.rel_of_pairwise_cons hsorted h; omega
    rw [hr] at this
    cases this

/-- The frozen slices that have been made lie in blocks of the call's making. -/
def FreshAll (X : Ctx) (Z : List Tmp) (ops : Array Oper) (listed : Array Bool) (σ : AS) (a : Act) : Prop :=
  ∀ (j : Nat) (oj : Oper) (t : Tmp) (ty : TypeId) (m : Nat) (ps : Array (Nat × Operand)) (n : Nat) (c : AV) (cs : List AV), ops[j]? = some oj → listed.getD j false = true → fz Z oj.dst = true → oj.op = .buildSlice ty m ps → oj.dst = some t → σ.tm t = .ro n (c :: cs) → Fresh X a t

theorem any_soundZ {N : Nat} {ops : Array Oper} (R : RegZ N ops Z) {Q : Exit → Act → World → Prop} {O : Nat → Prop} : ∀ (fuel : Nat) (listed : Array Bool) (σ σ' : AS) (M : Mem) (a : Act),
    (remOf ops.size listed).length ≤ fuel → Closed ops listed → listed.size = ops.size → FreshAll X Z ops listed σ a → StepsZ P Z ops.toList (remOf ops.size listed) σ σ' → Rel N X σ M a → M.O = O → (∀ M' a', Rel N X σ' M' a' → M'.O = O → Q .normal a' M'.w) →
      wpAny P .any ops Q fuel listed a M.w := by
  intro fuel
  induction fuel with
  | zero =>
    intro listed σ σ' M a hf hc hsz hFA hs hR hO hQ
    have hrem : remOf ops.size listed = [] := List.eq_nil_of_length_eq_zero (by omega)
    refine ⟨?_, ?_⟩
    · rcases hready : Region.ready .any ops listed with _ | ⟨i, l⟩
      · rfl
      · exfalso
        obtain ⟨h1, h2⟩ := ready_rem listed i (by rw [hready]; exact .head _)
        have : i ∈ remOf ops.size listed := List.mem_filter.2 ⟨List.mem_range.2 h1, by simp [h2]⟩
        rw [hrem] at this; cases this
    · rw [hrem] at hs
      cases hs
      exact hQ M a hR hO
  | succ fuel ih =>
    intro listed σ σ' M a hf hc hsz hFA hs hR hO hQ
    refine ⟨fun hr => ?_, fun i hi => ?_⟩
    · rw [nil_remZ R listed hr] at hs
      cases hs
      exact hQ M a hR hO
    · obtain ⟨hlt, hiu⟩ := ready_rem listed i hi
      obtain ⟨l1, l2, q1, q2, q3, q4⟩ := rem_split hlt hiu
      obtain ⟨_, oi, hoi, hall⟩ := mem_ready.1 hi
      rw [q1] at hs
      have hanc : ∀ j, listed.getD j true = false → anc (beforeL ops.toList #[]) i j = false := by
        intro j hju
        cases hanc : anc (beforeL ops.toList #[]) i j with
        | false => rfl
        | true =>
          exfalso
          have := anc_listedZ R hc i oi hoi hall j hanc
          have hsz : j < listed.size := by
            rcases Nat.lt_or_ge j listed.size with h | h
            · exact h
            · simp [Array.getD_eq_getD_getElem?, Array.getElem?_eq_none h] at hju
          simp [Array.getD_eq_getD_getElem?, hsz] at this hju
          rw [this] at hju; cases hju
      obtain ⟨τ, h1, h2⟩ := stepsZ_front hoi l1 l2 σ σ' hR.heap.tidy hs fun j hj => by
        obtain ⟨hji, hjn, hju⟩ := q3 j hj
        exact ⟨ops[j], Array.getElem?_eq_getElem hjn, R.pair i j oi _ hoi (Array.getElem?_eq_getElem hjn) hji (hanc j hju)⟩
      refine stepZ_sound hR h1 (fun o d ho hd => R.dst i o d ho hd) (fun o s d x n c cs ho hz hop hx => ?_) fun M' a' hR' hO' hkeep hnew => ?_
      · obtain ⟨j, oj, ha, hj, hzj, ⟨ty, m, ps, hopj⟩, hdj⟩ := R.conv i o s d x ho hz hop
        rw [hoi] at ho; cases ho
        exact hFA j oj x ty m ps n c cs hj (anc_listedZ R hc i oi hoi hall j ha) hzj hopj hdj hx
      · refine ih (listed.setIfInBounds i true) τ σ' M' a' ?_ ?_ (by simpa using hsz) ?_ (q2 ▸ h2) hR' (hO'.trans hO) hQ
        · rw [q2]
          rw [q1] at hf
          simp at hf ⊢
          omega
        · intro k o e ho hk he hb
          by_cases hki : k = i
          · subst hki
            rw [hoi] at ho; cases ho
            exact getD_set_true (hall e he hb)
          · have : listed.getD k false = true := by
              rwa [getD_set_ne false (Ne.symm hki)] at hk
            exact getD_set_true (hc k o e ho this he hb)
        · intro j oj t ty m ps n c cs hj hl hzj hopj hdj hx
          by_cases hji : j = i
          · subst hji
            exact hnew oj t ty m ps n c cs hj hzj hopj hdj hx
          · have hlj : listed.getD j false = true := by
              rwa [getD_set_ne false (Ne.symm hji)] at hl
            obtain ⟨e1, e2⟩ := hkeep t fun o ho => by
              rw [← hdj]
              exact R.one j oj ty m ps hj hzj hopj i o (Ne.symm hji) ho
            rw [e1] at hx
            obtain ⟨b, n2, cap, r1, r2⟩ := hFA j oj t ty m ps n c cs hj hlj hzj hopj hdj hx
            exact ⟨b, n2, cap, e2.trans r1, r2⟩

theorem region_soundZ {N : Nat} {M : Mem} {a : Act} {ops : Array Oper} {id : Nat} (hm : P.follows .mixedOrders = true) (hok : regionOkZ N ops Z = true) {Q : Exit → Act → World → Prop} {σ σ' : AS}
    (hs : StepsZ P Z ops.toList (List.range ops.size) σ σ') (hR : Rel N X σ M a) (hQ : ∀ M' a', Rel N X σ' M' a' → M'.O = M.O → Q .normal a' M'.w) : (Code.region id ops true).wp P Q a M.w := by
  have R := regZ_of hok
  refine wp_region_any hm ?_
  have hE := hR.heap.ext (Ext.drawn M.w (M.w.drawn + 1))
  have hR2 : Rel N X σ { M with w := { M.w with drawn := M.w.drawn + 1 } } a := ⟨hE.2, hR.size, hR.defers, hR.okD, fun t => VRel.mono hE.1 _ _ (hR.tm t), hR.inv.le hE.1⟩
  have nol : ∀ i, (Array.replicate ops.size false).getD i false = false := fun i => by
    simp only [Array.getD_eq_getD_getElem?, Array.getElem?_replicate]
    split <;> rfl
  refine any_soundZ R (O := M.O) ops.size _ σ σ' { M with w := { M.w with drawn := M.w.drawn + 1 } } a ?_ ?_ (by simp) ?_ ?_ hR2 rfl hQ
  · rw [remOf_all]; simp
  · intro i o e ho hl
    rw [nol] at hl; cases hl
  · intro j oj t ty m ps n c cs hj hl
    rw [nol] at hl; cases hl
  · rw [remOf_all]; exact hs
theorem GoA.regionZ {fn : FnE} {id : Nat} {ops : Array Oper} {k : List Item} {σ σ' : AS} {r : RV} (hm : P.follows .mixedOrders = true) (hok : regionOkZ fn.fn.ntmps ops Z = true)
    (hs : StepsZ P Z ops.toList (List.range ops.size) σ σ') (h : GoA P fn k σ' r) : GoA P fn (.code (.region id ops true) :: k) σ r := by
  intro hk X M a hS R b cs hb hf
  simp only [okTodo, List.all_cons, Bool.and_eq_true] at hk
  have W := region_soundZ (id := id) hm hok (Q := fun e a' w' => e = .normal ∧ ∃ M', Rel fn.fn.ntmps X σ' M' a' ∧ M'.O = M.O ∧ M'.w = w') hs R (fun M' a' R' hO => ⟨rfl, M', R', hO, rfl⟩)
  obtain ⟨e, a', w', ⟨rfl, M', R', hO, rfl⟩, harr⟩ := W b k cs
  obtain ⟨v, w', fr, h1, h2, h3⟩ := h hk.2 X M' a' hS R' b cs hb hf
  rw [hO] at h1
  exact ⟨v, w', fr, h1, Steps.trans harr h2, h3⟩

/-! ### The run -/
def opsZ (P : Program) (Z : List Tmp) (L : List Oper) : List Oper → AS → (AS → Prop) → Prop
  | [], σ, K => K σ
  | o :: os, σ, K => guardV (guardA L o σ.tm) (if fz Z o.dst = true then bindV (frzX P o.op σ.ev) fun v => opsZ P Z L os (σ.put o.dst v) K else execV P .no o σ fun σ' => opsZ P Z L os σ' K) (opsZ P Z L os (σ.put o.dst (.tup [])) K)

theorem opsZ_sound (L : List Oper) : ∀ (il : List Nat) (os : List Oper), il.map (fun i => L[i]?) = os.map some → ∀ (σ : AS) (K : AS → Prop), opsZ P Z L os σ K → ∃ σ', StepsZ P Z L il σ σ' ∧ K σ' := by
  intro il
  induction il with
  | nil =>
    intro os he σ K h
    cases os with
    | nil => exact ⟨σ, rfl, h⟩
    | cons o os => simp at he
  | cons n il ih =>
    intro os he σ K h
    cases os with
    | nil => simp at he
    | cons o os =>
    simp only [List.map_cons, List.cons.injEq] at he
    obtain ⟨hget, he⟩ := he
    simp only [opsZ] at h
    cases hz : fz Z o.dst with
    | true =>
      simp only [hz, if_true] at h
      cases hg : guardA L o σ.tm with
      | none => simp [hg, guardV] at h
      | some b =>
        simp only [hg, guardV] at h
        cases b
        · obtain ⟨σ', h1, h2⟩ := ih os he _ K (h.2 rfl)
          exact ⟨σ', ⟨_, (stepZ_iff hget _ _).2 ⟨_, _, by simp only [EffZ, hz, if_true, hg]; exact ⟨trivial, trivial⟩, rfl⟩, h1⟩, h2⟩
        · have hx := h.1 rfl
          cases hv : frzX P o.op σ.ev with
          | none => simp [hv, bindV] at hx
          | some v =>
            simp only [hv, bindV] at hx
            obtain ⟨σ', h1, h2⟩ := ih os he _ K hx
            exact ⟨σ', ⟨_, (stepZ_iff hget _ _).2 ⟨v, σ.h, by simp only [EffZ, hz, if_true, hg]; exact ⟨hv, trivial⟩, rfl⟩, h1⟩, h2⟩
    | false =>
      simp only [hz, Bool.false_eq_true, if_false] at h
      have h1 : opsV P .no L [o] σ fun σ' => opsZ P Z L os σ' K := h
      obtain ⟨σ1, ⟨τ, p1, p2⟩, p3⟩ := opsV_soundL L [n] [o] (by simp [hget]) σ _ h1
      cases p2
      obtain ⟨σ', r1, r2⟩ := ih os he _ K p3
      exact ⟨σ', ⟨_, (stepZ_a hget hz).2 p1, r1⟩, r2⟩
theorem go_regionZ (Z : List Tmp) {fn : FnE} {id : Nat} {L : List Oper} {k : List Item} {σ : AS} {r : RV} (hm : P.follows .mixedOrders = true) (hok : regionOkZ fn.fn.ntmps L.toArray Z = true)
    (h : opsZ P Z L L σ fun σ' => GoA P fn k σ' r) : GoA P fn (.code (.region id L.toArray true) :: k) σ r := by
  obtain ⟨σ', h1, h2⟩ := opsZ_sound L _ _ (idx_range' L 0) σ _ h
  refine GoA.regionZ hm hok (σ' := σ') ?_ h2
  rw [List.range_eq_range']
  simpa using h1
def opsZT (P : Program) (Z : List Tmp) (L os : List Oper) (K : AS → Prop) (_ : Tok L) (_ : Tok os) (_ : Tok K) (σ : AS) : Prop := opsZ P Z L os σ K
theorem goT_regionZ (hm : P.follows .mixedOrders = true) (Z : List Tmp) {fn : FnE} {id : Nat} {L : List Oper} {k : List Item} {σ : AS} {r : RV} {t1 t2 t3} (n : Nat) (hok : regionOkZ fn.fn.ntmps L.toArray Z = true)
    (h : opsZT P Z L L (fun σ' => vcT P fn n k r ⟨⟩ ⟨⟩ ⟨⟩ σ') ⟨⟩ ⟨⟩ ⟨⟩ σ) : goT P fn (.code (.region id (List.toArray L) true) :: k) r t1 t2 t3 σ := by
  obtain ⟨σ', h1, h2⟩ := opsZ_sound L _ _ (idx_range' L 0) σ _ h
  refine GoA.regionZ hm hok (σ' := σ') ?_ (vc_sound hm n _ _ _ h2)
  rw [List.range_eq_range']
  simpa using h1
section
variable {L : List Oper} {K : AS → Prop} {t1 : Tok L} {t3 : Tok K} {σ : AS} {dst : Option Tmp} {op : Op} {ty : TypeId} {pos : String} {aft : Array Edge} {os : List Oper} {ρ : Operand → AV}
@[simp] theorem opsZ_nil {t2} : opsZT P Z L [] K t1 t2 t3 σ = K σ := (rfl)
@[simp] theorem opsZ_none {t2} : opsZT P Z L (⟨dst, op, ty, pos, aft, none⟩ :: os) K t1 t2 t3 σ =
    exT (fz Z dst) (bindT (frzX P op σ.ev) (fun v => opsZT P Z L os K ⟨⟩ ⟨⟩ ⟨⟩ (σ.put dst v)) ⟨⟩) (execT P .no ⟨dst, op, ty, pos, aft, none⟩ (fun σ' => opsZT P Z L os K ⟨⟩ ⟨⟩ ⟨⟩ σ') ⟨⟩ ⟨⟩ σ) ⟨⟩ ⟨⟩ := by
  simp only [opsZT, execT, bindT, exT, opsZ, guardA, guardV]
  simp
@[simp] theorem opsZ_some {j : Nat} {w : Bool} {t2} : opsZT P Z L (⟨dst, op, ty, pos, aft, some (j, w)⟩ :: os) K t1 t2 t3 σ =
    slotT L j (fun s => guardT (gval σ.tm s w) (exT (fz Z dst) (bindT (frzX P op σ.ev) (fun v => opsZT P Z L os K ⟨⟩ ⟨⟩ ⟨⟩ (σ.put dst v)) ⟨⟩) (execT P .no ⟨dst, op, ty, pos, aft, some (j, w)⟩ (fun σ' => opsZT P Z L os K ⟨⟩ ⟨⟩ ⟨⟩ σ') ⟨⟩ ⟨⟩ σ) ⟨⟩ ⟨⟩)
      (opsZT P Z L os K ⟨⟩ ⟨⟩ ⟨⟩ (σ.put dst (.tup []))) ⟨⟩ ⟨⟩) ⟨⟩ ⟨⟩ := (rfl)
@[simp] theorem fz_none : fz Z none = false := (rfl)
@[simp] theorem fz_some {d : Tmp} : fz Z (some d) = Z.contains d := (rfl)
def frzIf (b : Bool) (o : Option AV) : Option AV := if b = true then o else none
@[simp] theorem frzIf_t {o : Option AV} : frzIf true o = o := (rfl)
@[simp] theorem frzX_bs {t : TypeId} {n : Nat} {ps : List (Nat × Operand)} : frzX P (.buildSlice t n (List.toArray ps)) ρ =
    frzIf (noRefs (ps.map fun p => ρ p.2)) ((tyI P t).bind fun i => (buildSliceA P i ⟨noBk, 0⟩ n (ps.map fun p => (p.1, ρ p.2))).bind frzOut) := by
  simp only [frzX, frzIf, withTy, evParts]
  cases tyI P t <;> rfl
@[simp] theorem frzX_sl {t : TypeId} {x : Operand} {lo hi mx : Option Operand} : frzX P (.slice t x lo hi mx) ρ =
    frzIf (noRef (ρ x) && noRefO (lo.map ρ) && noRefO (hi.map ρ) && noRefO (mx.map ρ)) ((tyI P t).bind fun i => (sliceA i ⟨noBk, 0⟩ (ρ x) (lo.map ρ) (hi.map ρ) (mx.map ρ)).bind fun v => frzOut (v, ⟨noBk, 0⟩)) := by
  simp only [frzX, frzIf, withTy]
  cases tyI P t <;> rfl
def frzCv (P : Program) (i : TyI) (x : AV) : Option AV :=
  match i.td, x with
  | .slice e _ _ _, .ro n (c :: cs) => if u8T P e = true then some (.ro n (c :: cs)) else none
  | _, _ => none
@[simp] theorem frzX_cv {s : TypeId} {x : Tmp} : frzX P (.convert s s (.tmp x)) ρ = (tyI P s).bind fun i => frzCv P i (ρ (.tmp x)) := by
  simp only [frzX, if_true, withTy]
  cases tyI P s <;> rfl
theorem frzCv_ro {s b : Nat} {a : Bool} {z : List AV} {e es eb n : Nat} {ea : Bool} {cs : List AV} (hu : u8T P e = true) (hc : cs ≠ []) : frzCv P ⟨s, b, a, z, .slice e es ea eb⟩ (.ro n cs) = some (.ro n cs) := by
  cases cs with
  | nil => exact (hc rfl).elim
  | cons c cs => simp only [frzCv, hu, if_true]
theorem frzOut_sl {bk : Nat → Option Blk} {nt n : Nat} {cs : List AV} {f : Bool} (hb : bk 0 = some ⟨cs, f⟩) (hl : cs.length = n) (hn : noRefs cs = true) : frzOut (.sl 0 0 1 n, ⟨bk, nt⟩) = some (.ro n cs) := by
  subst hl
  have h1 : view ⟨bk, nt⟩ (.sl 0 0 1 cs.length) = .ro cs.length cs := by
    rw [view_sl (cs := cs) (f := f) hb (by simp) hn]
    simp [List.take_of_length_le]
  simp [frzOut, h1, noRef]
theorem frzOut_ro {h : HP} {n : Nat} {cs : List AV} : frzOut (.ro n cs, h) = some (.ro n cs) := by simp [frzOut, view, view1, noRef]
end
end Go.Am
