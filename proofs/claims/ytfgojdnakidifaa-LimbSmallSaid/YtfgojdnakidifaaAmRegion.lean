/-
  'Am', part 15: a region whose order is drawn comes to what it comes to in the text's order.
-/
import Derived.Test.YtfgojdnakidifaaAmStep
set_option linter.unusedSimpArgs false
set_option linter.unusedVariables false
namespace Go.Am
variable {P : Program} {X : Ctx}

def wr : Op → Bool
  | .alloc _ | .box _ _ | .buildSlice _ _ _ | .store _ _ _ | .makeSlice _ _ _ => true
  | .call { callee := .builtin .append, .. } | .call { callee := .builtin .copy, .. } => true
  | _ => false
def rd : Op → Bool
  | .load _ _ | .nilCheck _ | .convert _ _ _ | .slice _ _ _ _ _ | .fieldAddr _ _ _ | .indexAddr _ _ _ | .call _ => true
  | _ => false

theorem exec_wr {op : Op} {ρ : Operand → AV} {h h' : HP} {v : AV} (hw : wr op = false) (he : exec P op ρ h = some (v, h')) : h' = h := by
  cases op <;> simp only [wr, Bool.true_eq_false] at hw <;> simp only [exec] at he <;> try (cases he; done)
  case move | assign | makeFunc => cases he; rfl
  case pick => split at he <;> cases he; rfl
  case load | convert | slice | fieldAddr | field | indexAddr | index | build =>
    obtain ⟨i, hi, he⟩ := withTy_spec he
    first
      | (obtain ⟨c, hc, he⟩ := map_some he; cases he; rfl)
      | (obtain ⟨i2, hi2, he⟩ := withTy_spec he; obtain ⟨c, hc, he⟩ := map_some he; cases he; rfl)
  case nilCheck | binOp | unOp | extract =>
    obtain ⟨c, hc, he⟩ := map_some he
    cases he; rfl
  case call c =>
    obtain ⟨callee, args, ts⟩ := c
    cases callee <;> try (simp only at he; cases he; done)
    simp only at he
    unfold bltA at he
    split at he
    · obtain ⟨i, hi, he⟩ := withTy_spec he
      obtain ⟨c, hc, he⟩ := map_some he; cases he; rfl
    · simp at hw
    · simp at hw
    · obtain ⟨c, hc, he⟩ := map_some he; cases he; rfl
    · obtain ⟨c, hc, he⟩ := map_some he; cases he; rfl
    · cases he

theorem exec_pure {op : Op} {ρ : Operand → AV} {h h' : HP} {v : AV} (hw : wr op = false) (hr : rd op = false) (he : exec P op ρ h = some (v, h')) (k : HP) : exec P op ρ k = some (v, k) := by
  cases op <;> simp only [wr, rd, Bool.true_eq_false] at hw hr <;> simp only [exec] at he ⊢ <;> try (cases he; done)
  case move | assign | makeFunc => cases he; rfl
  case pick => split at he <;> cases he; rfl
  case field | index | build =>
    obtain ⟨i, hi, he⟩ := withTy_spec he
    obtain ⟨c, hc, he⟩ := map_some he
    cases he
    simp [withTy, hi, hc]
  case binOp | unOp | extract =>
    obtain ⟨c, hc, he⟩ := map_some he
    cases he
    simp [hc]

theorem exec_congr {op : Op} {ρ ρ' : Operand → AV} {h : HP} (hx : ∀ x ∈ op.operands, ρ x = ρ' x) : exec P op ρ h = exec P op ρ' h := by
  have pairs : ∀ ps : Array (Nat × Operand), (∀ x ∈ (ps.toList.map (·.2)).toArray, ρ x = ρ' x) → evParts ρ ps = evParts ρ' ps := fun ps hp =>
    List.map_congr_left fun p hm => by rw [hp p.2 (by simp only [List.mem_toArray]; exact List.mem_map.2 ⟨p, hm, rfl⟩)]
  cases op <;> simp only [Op.operands] at hx <;> simp only [exec]
  case build t ps => rw [pairs ps hx]
  case buildSlice t n ps => rw [pairs ps hx]
  case makeFunc fn a b =>
    rw [List.map_congr_left (l := a.toList) fun x h => hx x (by simp only [Array.mem_append]; exact .inl (Array.mem_toList_iff.1 h)),
      List.map_congr_left (l := b.toList) fun x h => hx x (by simp only [Array.mem_append]; exact .inr (Array.mem_toList_iff.1 h))]
  case call c =>
    obtain ⟨callee, args, ts⟩ := c
    cases callee <;> simp only
    rw [List.map_congr_left (l := args.toList) fun x h => hx x (by simp only [Call.operands, Array.mem_append]; exact .inr (Array.mem_toList_iff.1 h))]
  case slice t x lo hi mx => cases lo <;> cases hi <;> cases mx <;> simp_all
  all_goals (first | rfl | (simp_all; done))

/-- What an operation leaves at a state: its slot's value, the blocks. -/
def AEff (P : Program) (ops : List Oper) (o : Oper) (tm : Nat → AV) (h : HP) (v : AV) (h' : HP) : Prop :=
  match guardA ops o tm with
  | some true => match o.op with
    | .call { callee := .value f, args, .. } => (∃ g first caps fn, P.funcs[g]? = some fn ∧ fn.name ≠ "runtime.NumGoroutine" ∧ fn.body.isNone = false ∧ (AS.mk tm h).ev f = .fn (.func g) first caps ∧
      CallOk P g (first ++ args.toList.map (AS.mk tm h).ev ++ caps) h v) ∧ h' = h
    | op => exec P op (AS.mk tm h).ev h = some (v, h')
  | some false => v = .dead ∧ h' = h
  | none => False

theorem astep_iff {ops : List Oper} {i : Nat} {o : Oper} (ho : ops[i]? = some o) (σ σ' : AS) : AStep P ops i σ σ' ↔ ∃ v h', AEff P ops o σ.tm σ.h v h' ∧ σ' = (AS.mk σ.tm h').put o.dst v := by
  unfold AStep AEff
  rw [ho]
  simp only
  cases guardA ops o σ.tm with
  | none => simp
  | some b =>
    cases b
    · simp only
      constructor
      · rintro rfl; exact ⟨_, _, ⟨rfl, rfl⟩, rfl⟩
      · rintro ⟨v, h', ⟨rfl, rfl⟩, rfl⟩; rfl
    · simp only
      unfold AExec
      obtain ⟨dst, op, ty, pos, aft, gd⟩ := o
      cases op <;> try exact Iff.rfl
      rename_i c
      obtain ⟨callee, args, ts⟩ := c
      cases callee <;> try exact Iff.rfl
      simp only
      constructor
      · rintro ⟨g, first, caps, r, fn, h1, h2, h3, h4, h5, rfl⟩
        exact ⟨r, σ.h, ⟨⟨g, first, caps, fn, h1, h2, h3, h4, h5⟩, rfl⟩, rfl⟩
      · rintro ⟨v, h', ⟨⟨g, first, caps, fn, h1, h2, h3, h4, h5⟩, rfl⟩, rfl⟩
        exact ⟨g, first, caps, v, fn, h1, h2, h3, h4, h5, rfl⟩

theorem ev_congr {tm tm' : Nat → AV} {h h' : HP} (x : Operand) (hx : ∀ t, x = .tmp t → tm t = tm' t) : (AS.mk tm h).ev x = (AS.mk tm' h').ev x := by
  cases x with
  | tmp t => exact hx t rfl
  | const v => rfl
  | func f => rfl
  | global g => rfl

theorem mem_looksAt {ops : Array Oper} {o : Oper} {t : Tmp} (h : .tmp t ∈ o.op.operands) : t ∈ o.looksAt ops :=
  List.mem_append_left _ (List.mem_filterMap.2 ⟨.tmp t, by simpa using h, rfl⟩)

theorem guard_congr {ops : Array Oper} {o : Oper} {tm tm' : Nat → AV} (h : ∀ t ∈ o.looksAt ops, tm t = tm' t) : guardA ops.toList o tm = guardA ops.toList o tm' := by
  unfold guardA
  cases hg : o.guard with
  | none => rfl
  | some jw =>
    obtain ⟨j, w⟩ := jw
    simp only
    cases ht : (ops.toList[j]?).bind (·.dst) with
    | none => rfl
    | some t =>
      have : t ∈ o.looksAt ops := by
        refine List.mem_append_right _ ?_
        rw [hg]
        have h2 : (ops[j]?).bind (·.dst) = some t := by simpa using ht
        simp [h2]
      simp only [h t this]

theorem aeff_congr {ops : Array Oper} {o : Oper} {tm tm' : Nat → AV} {h h' : HP} {v : AV} (hl : ∀ t ∈ o.looksAt ops, tm t = tm' t) (he : AEff P ops.toList o tm h v h') : AEff P ops.toList o tm' h v h' := by
  unfold AEff at he ⊢
  rw [← guard_congr hl]
  split at he
  · rename_i hg
    split at he
    · rename_i f args ts hop
      obtain ⟨⟨g, first, caps, fn, h1, h2, h3, h4, h5⟩, rfl⟩ := he
      have hev : ∀ x ∈ o.op.operands, (AS.mk tm h').ev x = (AS.mk tm' h').ev x := fun x hx => ev_congr x fun t ht => hl t (mem_looksAt (ht ▸ hx))
      rw [hop] at hev
      refine ⟨⟨g, first, caps, fn, h1, h2, h3, ?_, ?_⟩, rfl⟩
      · rw [← hev f (by simp [Op.operands, Call.operands])]; exact h4
      · rw [← List.map_congr_left (l := args.toList) fun x hx => hev x (by simp only [Op.operands, Call.operands, Array.mem_append]; exact .inr (Array.mem_toList_iff.1 hx))]; exact h5
    · rename_i op hne
      rw [← exec_congr fun x hx => ev_congr x fun t ht => hl t (mem_looksAt (ht ▸ hx))]
      exact he
  · exact he
  · exact he.elim

theorem aeff_wr {ops : List Oper} {o : Oper} {tm : Nat → AV} {h h' : HP} {v : AV} (hw : wr o.op = false) (he : AEff P ops o tm h v h') : h' = h := by
  unfold AEff at he
  split at he
  · split at he
    · exact he.2
    · exact exec_wr hw he
  · exact he.2
  · exact he.elim

theorem aeff_pure {ops : List Oper} {o : Oper} {tm : Nat → AV} {h h' : HP} {v : AV} (hw : wr o.op = false) (hr : rd o.op = false) (he : AEff P ops o tm h v h') (k : HP) : AEff P ops o tm k v k := by
  unfold AEff at he ⊢
  split at he
  · split at he
    · rename_i f args ts hop
      rw [hop] at hr
      simp [rd] at hr
    · rw [exec_congr (ρ' := (AS.mk tm h).ev) fun x _ => ev_congr x fun t _ => rfl]
      exact exec_pure hw hr he k
  · exact ⟨he.1, rfl⟩
  · exact he.elim

/-- Two operations that do not touch one another. -/
def indep (ops : Array Oper) (x y : Oper) : Bool :=
  x.apart ops y && !(wr x.op && (rd y.op || wr y.op)) && !(wr y.op && (rd x.op || wr x.op))

theorem astep_comm {ops : Array Oper} {i j : Nat} {oi oj : Oper} (hi : ops[i]? = some oi) (hj : ops[j]? = some oj) (hind : indep ops oi oj = true) {σ σ1 σ2 : AS}
    (h1 : AStep P ops.toList i σ σ1) (h2 : AStep P ops.toList j σ1 σ2) : ∃ σ1', AStep P ops.toList j σ σ1' ∧ AStep P ops.toList i σ1' σ2 := by
  have hi' : ops.toList[i]? = some oi := by simpa using hi
  have hj' : ops.toList[j]? = some oj := by simpa using hj
  obtain ⟨v1, k1, e1, rfl⟩ := (astep_iff hi' _ _).1 h1
  obtain ⟨v2, k2, e2, rfl⟩ := (astep_iff hj' _ _).1 h2
  simp only [indep, Bool.and_eq_true, Bool.not_eq_true', Bool.and_eq_false_iff, Bool.or_eq_false_iff] at hind
  obtain ⟨⟨hap, hw1⟩, hw2⟩ := hind
  obtain ⟨a1, a2, a3⟩ := Oper.apart_spec hap
  have tm_put : ∀ (τ : AS) (d : Option Tmp) (v : AV) (t : Nat), (∀ x, d = some x → t ≠ x) → (τ.put d v).tm t = τ.tm t := by
    intro τ d v t h
    cases d with
    | none => rfl
    | some x => exact upd_other _ _ _ _ (h x rfl)
  have h_put : ∀ (τ : AS) (d : Option Tmp) (v : AV), (τ.put d v).h = τ.h := by intro τ d v; cases d <;> rfl
  rw [h_put] at e2
  simp only at e2
  have e2' : AEff P ops.toList oj σ.tm k1 v2 k2 := aeff_congr (fun t ht => tm_put (AS.mk σ.tm k1) oi.dst v1 t fun x hx hxt => a1 x hx (hxt ▸ ht)) e2
  have put_put : ∀ (k h : HP), (AS.mk ((AS.mk σ.tm k).put oi.dst v1).tm k2).put oj.dst v2 = (AS.mk ((AS.mk σ.tm h).put oj.dst v2).tm k2).put oi.dst v1 := by
    intro k h
    cases hdi : oi.dst with
    | none => cases oj.dst <;> rfl
    | some x =>
      cases hdj : oj.dst with
      | none => rfl
      | some y => exact congrArg (fun f => AS.mk f k2) (upd_comm _ _ _ _ _ (fun he => a2 x hdi (he ▸ hdj)))
  by_cases hwi : wr oi.op = true
  · -- the first writes: the second one only reckons
    have hr2 : rd oj.op = false ∧ wr oj.op = false := hw1.resolve_left (by simp [hwi])
    have hk : k2 = k1 := aeff_wr hr2.2 e2'
    subst hk
    refine ⟨(AS.mk σ.tm σ.h).put oj.dst v2, (astep_iff hj' _ _).2 ⟨v2, σ.h, aeff_pure hr2.2 hr2.1 e2' σ.h, rfl⟩, (astep_iff hi' _ _).2 ⟨v1, k2, ?_, ?_⟩⟩
    · rw [h_put]
      exact aeff_congr (tm := σ.tm) (fun t ht => (tm_put (AS.mk σ.tm σ.h) oj.dst v2 t fun x hx hxt => a3 x hx (hxt ▸ ht)).symm) e1
    · exact put_put _ _
  · have hwi : wr oi.op = false := by simpa using hwi
    have hk1 : k1 = σ.h := aeff_wr hwi e1
    subst hk1
    refine ⟨(AS.mk σ.tm k2).put oj.dst v2, (astep_iff hj' _ _).2 ⟨v2, k2, e2', rfl⟩, (astep_iff hi' _ _).2 ⟨v1, k2, ?_, ?_⟩⟩
    · rw [h_put]
      refine aeff_congr (tm := σ.tm) (fun t ht => (tm_put (AS.mk σ.tm k2) oj.dst v2 t fun x hx hxt => a3 x hx (hxt ▸ ht)).symm) ?_
      by_cases hwj : wr oj.op = true
      · have hri : rd oi.op = false ∧ wr oi.op = false := hw2.resolve_left (by simp [hwj])
        exact aeff_pure hri.2 hri.1 e1 k2
      · have hk2 : k2 = σ.h := aeff_wr (by simpa using hwj) e2'
        subst hk2
        exact e1
    · exact put_put _ _
end Go.Am
