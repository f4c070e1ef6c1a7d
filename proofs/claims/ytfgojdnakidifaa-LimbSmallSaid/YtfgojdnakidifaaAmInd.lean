/-
  'Am', part 15b: which operations may change their places: a new block is no matter to who reads; a store is none to who only asks where a cell lies.
-/
import Derived.Test.YtfgojdnakidifaaAmRegion
set_option linter.unusedSimpArgs false
set_option linter.unusedVariables false
namespace Go.Am
variable {P : Program} {X : Ctx}

/-- Beyond the counter there is no block. -/
def HP.tidy (h : HP) : Prop := ∀ id, h.nt ≤ id → h.bk id = none
/-- All blocks of h lie in k, too. -/
def HP.le (h k : HP) : Prop := ∀ id b, h.bk id = some b → k.bk id = some b
/-- The same places have blocks. -/
def HP.dm (h k : HP) : Prop := ∀ id, (k.bk id).isSome = (h.bk id).isSome

theorem HP.le.some {h k : HP} (hl : h.le k) {id : Nat} (hs : (h.bk id).isSome = true) : (k.bk id).isSome = true := by
  obtain ⟨b, hb⟩ := Option.isSome_iff_exists.1 hs
  rw [hl id b hb]; rfl
theorem HP.le_add {h : HP} (ht : h.tidy) (b : Blk) : h.le (h.add b) := by
  intro id c hc
  unfold HP.add
  simp only
  rw [upd_other _ _ _ _ (fun he => by rw [ht id (by omega)] at hc; cases hc)]
  exact hc
theorem HP.tidy_add {h : HP} (ht : h.tidy) (b : Blk) : (h.add b).tidy := by
  intro id hid
  simp only [HP.add] at hid ⊢
  rw [upd_other _ _ _ _ (by omega)]
  exact ht id (by omega)
theorem HP.tidy_move {h : HP} (ht : h.tidy) (i : Nat) (b : Blk) : (h.move i b).tidy := by
  intro id hid
  simp only [HP.move] at hid ⊢
  rw [upd_other _ _ _ _ (by omega)]
  by_cases he : id = i
  · subst he; rw [upd_same]
  · rw [upd_other _ _ _ _ he]; exact ht id (by omega)
theorem HP.tidy_upd {h : HP} (ht : h.tidy) {i : Nat} {b c : Blk} (hb : h.bk i = some b) : ({ h with bk := upd h.bk i (some c) } : HP).tidy := by
  intro id hid
  simp only at hid ⊢
  by_cases he : id = i
  · subst he; rw [ht id hid] at hb; cases hb
  · rw [upd_other _ _ _ _ he]; exact ht id hid
theorem HP.dm_upd {h : HP} {i : Nat} {b c : Blk} (hb : h.bk i = some b) : h.dm { h with bk := upd h.bk i (some c) } := by
  intro id
  simp only
  by_cases he : id = i
  · subst he; rw [upd_same, hb]; rfl
  · rw [upd_other _ _ _ _ he]

section
variable {h k : HP} (hl : h.le k)
include hl
theorem loadA_le {i : TyI} {p v : AV} (hv : loadA i h p = some v) : loadA i k p = some v := by
  unfold loadA at hv ⊢
  split at hv
  · rename_i id off
    split at hv
    · rename_i b hb
      rw [hl id b hb]
      exact hv
    · cases hv
  · exact hv
  · cases hv
theorem srcA_le {es : Nat} {a : AV} {r : Nat × List AV} (hv : srcA es h a = some r) : srcA es k a = some r := by
  unfold srcA at hv ⊢
  split at hv
  · exact hv
  · exact hv
  · rename_i id off es' n
    split at hv
    · rename_i b hb
      rw [hl id b hb]
      exact hv
    · cases hv
  · exact hv
  · cases hv
theorem nilA_le {x v : AV} (hv : nilA h x = some v) : nilA k x = some v := by
  unfold nilA at hv ⊢
  split at hv
  · split at hv
    · rename_i hs
      simp only [hl.some hs, if_true]
      exact hv
    · cases hv
  · exact hv
  · exact hv
  · cases hv
theorem lenA_le {i : TyI} {a : AV} {n : Nat} (hv : lenA i h a = some n) : lenA i k a = some n := by
  unfold lenA at hv ⊢
  split at hv
  · exact hv
  · exact hv
  · exact hv
  · exact hv
  · split at hv
    · rename_i hs
      simp only [hl.some hs, if_true]
      exact hv
    · cases hv
  · cases hv
theorem fieldAddrA_le {i : TyI} {f : Nat} {p v : AV} (hv : fieldAddrA i h f p = some v) : fieldAddrA i k f p = some v := by
  unfold fieldAddrA at hv ⊢
  split at hv
  · split at hv
    · split at hv
      · rename_i hs
        simp only [hs.1, hl.some hs.2, ne_eq, not_false_eq_true, and_self, if_true]
        exact hv
      · cases hv
    · exact hv
    · cases hv
  · cases hv
theorem indexAddrA_le {i : TyI} {x ix v : AV} (hv : indexAddrA i h x ix = some v) : indexAddrA i k x ix = some v := by
  unfold indexAddrA at hv ⊢
  split at hv
  · split at hv
    · rename_i hs
      simp only [hl.some hs, if_true]
      exact hv
    · cases hv
  · exact hv
  · split at hv
    · split at hv
      · rename_i hs
        rw [if_pos ⟨hs.1, hl.some hs.2⟩]
        exact hv
      · cases hv
    · cases hv
  · exact hv
  · cases hv
theorem sliceA_le {i : TyI} {x v : AV} {lo hi mx : Option AV} (hv : sliceA i h x lo hi mx = some v) : sliceA i k x lo hi mx = some v := by
  unfold sliceA at hv ⊢
  split at hv
  · rename_i n e es ea id off h1
    split at hv
    · rename_i b hb
      rw [hl id b hb]
      exact hv
    · cases hv
  · split at hv
    · rename_i hs
      rw [if_pos ⟨hs.1, hl.some hs.2.1, hs.2.2⟩]
      exact hv
    · cases hv
  · exact hv
  · exact hv
  · exact hv
  · cases hv
theorem convA_le {i i2 : TyI} {x v : AV} (hv : convA P i i2 h x = some v) : convA P i i2 k x = some v := by
  unfold convA at hv ⊢
  split at hv
  · exact hv
  · exact hv
  · split at hv
    · rename_i e es ea eb h1 h2
      split at hv
      · rename_i hc
        simp only [hc, and_self, if_true]
        cases hs : srcA 1 h x with
        | none => simp [hs] at hv
        | some r =>
          rw [hs] at hv
          rw [srcA_le hl hs]
          exact hv
      · cases hv
    · cases hv
end

theorem exec_le {op : Op} {ρ : Operand → AV} {h h' k : HP} {v : AV} (hl : h.le k) (hw : wr op = false) (he : exec P op ρ h = some (v, h')) : exec P op ρ k = some (v, k) := by
  cases op <;> simp only [wr, Bool.true_eq_false] at hw <;> simp only [exec] at he ⊢ <;> try (cases he; done)
  case move | assign | makeFunc => cases he; rfl
  case pick => split at he <;> cases he; rfl
  case field | index | build =>
    obtain ⟨i, hi, he⟩ := withTy_spec he
    obtain ⟨c, hc, he⟩ := map_some he
    cases he
    simp [withTy, hi, hc]
  case binOp | unOp | extract =>
    obtain ⟨c, hc, he⟩ := map_some he
    cases he
    simp [hc]
  case load =>
    obtain ⟨i, hi, he⟩ := withTy_spec he
    obtain ⟨c, hc, he⟩ := map_some he
    cases he
    simp [withTy, hi, loadA_le hl hc]
  case slice =>
    obtain ⟨i, hi, he⟩ := withTy_spec he
    obtain ⟨c, hc, he⟩ := map_some he
    cases he
    simp [withTy, hi, sliceA_le hl hc]
  case fieldAddr =>
    obtain ⟨i, hi, he⟩ := withTy_spec he
    obtain ⟨c, hc, he⟩ := map_some he
    cases he
    simp [withTy, hi, fieldAddrA_le hl hc]
  case indexAddr =>
    obtain ⟨i, hi, he⟩ := withTy_spec he
    obtain ⟨c, hc, he⟩ := map_some he
    cases he
    simp [withTy, hi, indexAddrA_le hl hc]
  case convert =>
    obtain ⟨i, hi, he⟩ := withTy_spec he
    obtain ⟨i2, hi2, he⟩ := withTy_spec he
    obtain ⟨c, hc, he⟩ := map_some he
    cases he
    simp [withTy, hi, hi2, convA_le hl hc]
  case nilCheck =>
    obtain ⟨c, hc, he⟩ := map_some he
    cases he
    simp [nilA_le hl hc]
  case call c =>
    obtain ⟨callee, args, ts⟩ := c
    cases callee <;> try (simp only at he; cases he; done)
    simp only at he ⊢
    unfold bltA at he ⊢
    split at he
    · obtain ⟨i, hi, he⟩ := withTy_spec he
      obtain ⟨c, hc, he⟩ := map_some he
      cases he
      simp [withTy, hi, lenA_le hl hc]
    · simp at hw
    · simp at hw
    · obtain ⟨c, hc, he⟩ := map_some he; cases he; simp [hc]
    · obtain ⟨c, hc, he⟩ := map_some he; cases he; simp [hc]
    · cases he

/-! ### Calls -/
theorem view1_le {h k : HP} (hl : h.le k) (a : AV) {M : Mem} {r : Bool} {v : Value} (hv : VRel M r (view1 k a) v) : VRel M r (view1 h a) v := by
  unfold view1 at hv ⊢
  split at hv
  · rename_i id off es n
    cases hs : srcA es h (.sl id off es n) with
    | none => exact trivial
    | some q =>
      rw [srcA_le hl hs] at hv
      exact hv
  · exact hv
theorem views1_le {h k : HP} (hl : h.le k) {M : Mem} {r : Bool} : ∀ (cs : List AV) (l : List Value), VRels M r (cs.map (view1 k)) l → VRels M r (cs.map (view1 h)) l
  | [], _, hv => hv
  | c :: cs, _, ⟨v, vs, e, h1, h2⟩ => ⟨v, vs, e, view1_le hl c h1, views1_le hl cs vs h2⟩
theorem view_le {h k : HP} (hl : h.le k) (a : AV) {M : Mem} {r : Bool} {v : Value} (hv : VRel M r (view k a) v) : VRel M r (view h a) v := by
  unfold view at hv ⊢
  split at hv
  · rename_i cs
    split at hv
    · rename_i hn
      rw [if_pos hn]; exact hv
    · rename_i hn
      rw [if_neg hn]
      obtain ⟨a, e, hr⟩ := hv
      exact ⟨a, e, views1_le hl cs a hr⟩
  · exact view1_le hl a hv
theorem views_le {h k : HP} (hl : h.le k) {M : Mem} {r : Bool} : ∀ (cs : List AV) (l : List Value), VRels M r (cs.map (view k)) l → VRels M r (cs.map (view h)) l
  | [], _, hv => hv
  | c :: cs, _, ⟨v, vs, e, h1, h2⟩ => ⟨v, vs, e, view_le hl c h1, views_le hl cs vs h2⟩
theorem callOk_le {h k : HP} (hl : h.le k) {g : FuncId} {args : List AV} {r : AV} (hc : CallOk P g args h r) : CallOk P g args k r :=
  hc.imp id fun ⟨hS, hf⟩ => ⟨⟨hS.1, fun O w vs hO hv => hS.2 O w vs hO (views_le hl args vs hv)⟩, hf⟩

theorem aeff_le {ops : List Oper} {o : Oper} {tm : Nat → AV} {h h' k : HP} {v : AV} (hl : h.le k) (hw : wr o.op = false) (he : AEff P ops o tm h v h') : AEff P ops o tm k v k := by
  unfold AEff at he ⊢
  split at he
  · split at he
    · rename_i f args ts hop
      obtain ⟨⟨g, first, caps, fn, h1, h2, h3, h4, h5⟩, rfl⟩ := he
      refine ⟨⟨g, first, caps, fn, h1, h2, h3, ?_, ?_⟩, rfl⟩
      · rw [← h4]; exact ev_congr _ fun _ _ => rfl
      · have e : args.toList.map (AS.mk tm k).ev = args.toList.map (AS.mk tm h').ev := List.map_congr_left fun x _ => ev_congr x fun _ _ => rfl
        rw [e]
        exact callOk_le hl h5
    · rw [exec_congr (ρ' := (AS.mk tm h).ev) fun x _ => ev_congr x fun t _ => rfl]
      exact exec_le hl hw he
  · exact ⟨he.1, rfl⟩
  · exact he.elim

/-! ### What makes a new block; what only asks where a cell lies; what stores -/
def adds : Op → Bool
  | .alloc _ | .box _ _ | .buildSlice _ _ _ | .makeSlice _ _ _ => true
  | _ => false
def asks : Op → Bool
  | .fieldAddr _ _ _ | .indexAddr _ _ _ => true
  | _ => false
def stos : Op → Bool
  | .store _ _ _ => true
  | _ => false

theorem exec_adds {op : Op} {ρ : Operand → AV} {h h' : HP} {v : AV} (ha : adds op = true) (he : exec P op ρ h = some (v, h')) : ∃ b, h' = h.add b := by
  cases op <;> simp only [adds, Bool.false_eq_true] at ha <;> simp only [exec] at he
  case alloc => obtain ⟨i, hi, he⟩ := withTy_spec he; cases he; exact ⟨_, rfl⟩
  case box => obtain ⟨c, hc, he⟩ := map_some he; cases he; exact ⟨_, rfl⟩
  case buildSlice =>
    obtain ⟨i, hi, he⟩ := withTy_spec he
    unfold buildSliceA at he
    split at he
    · split at he
      · split at he
        · obtain ⟨c, hc, he⟩ := map_some he; cases he; exact ⟨_, rfl⟩
        · cases he
      · cases he
    · cases he
  case makeSlice =>
    obtain ⟨i, hi, he⟩ := withTy_spec he
    unfold makeA at he
    split at he
    · split at he
      · split at he
        · cases he; exact ⟨_, rfl⟩
        · cases he
      · cases he
    · cases he
theorem storeA_upd {i : TyI} {h h' : HP} {p v : AV} (hs : storeA i h p v = some h') : ∃ id b c, h.bk id = some b ∧ h' = { h with bk := upd h.bk id (some c) } := by
  unfold storeA at hs
  split at hs
  · split at hs
    · rename_i b hb
      split at hs
      · split at hs
        · cases hs; exact ⟨_, _, _, hb, rfl⟩
        · cases hs
      · split at hs
        · cases hs; exact ⟨_, _, _, hb, rfl⟩
        · cases hs
    · cases hs
  · cases hs
theorem exec_stos {op : Op} {ρ : Operand → AV} {h h' : HP} {v : AV} (ha : stos op = true) (he : exec P op ρ h = some (v, h')) : ∃ id b c, h.bk id = some b ∧ h' = { h with bk := upd h.bk id (some c) } := by
  cases op <;> simp only [stos, Bool.false_eq_true] at ha <;> simp only [exec] at he
  obtain ⟨i, hi, he⟩ := withTy_spec he
  obtain ⟨c, hc, he⟩ := map_some he
  cases he
  exact storeA_upd hc
theorem exec_asks {op : Op} {ρ : Operand → AV} {h h' k : HP} {v : AV} (hd : h.dm k) (ha : asks op = true) (he : exec P op ρ h = some (v, h')) : exec P op ρ k = some (v, k) := by
  cases op <;> simp only [asks, Bool.false_eq_true] at ha <;> simp only [exec] at he ⊢
  case fieldAddr =>
    obtain ⟨i, hi, he⟩ := withTy_spec he
    obtain ⟨c, hc, he⟩ := map_some he
    cases he
    have : fieldAddrA i k = fieldAddrA i h := by
      funext f p
      unfold fieldAddrA
      simp only [hd _]
    simp [withTy, hi, this, hc]
  case indexAddr =>
    obtain ⟨i, hi, he⟩ := withTy_spec he
    obtain ⟨c, hc, he⟩ := map_some he
    cases he
    have : indexAddrA i k = indexAddrA i h := by
      funext f p
      unfold indexAddrA
      simp only [hd _]
    simp [withTy, hi, this, hc]

theorem exec_tidy {op : Op} {ρ : Operand → AV} {h h' : HP} {v : AV} (ht : h.tidy) (he : exec P op ρ h = some (v, h')) : h'.tidy := by
  cases hw : wr op with
  | false => rw [exec_wr hw he]; exact ht
  | true =>
    cases ha : adds op with
    | true =>
      obtain ⟨b, rfl⟩ := exec_adds ha he
      exact HP.tidy_add ht b
    | false =>
      cases hs : stos op with
      | true =>
        obtain ⟨id, b, c, hb, rfl⟩ := exec_stos hs he
        exact HP.tidy_upd ht hb
      | false =>
        cases op <;> simp only [adds, stos, wr, Bool.true_eq_false, Bool.false_eq_true] at ha hs hw
        rename_i cl
        obtain ⟨callee, args, ts⟩ := cl
        cases callee <;> try (simp at hw; done)
        simp only [exec] at he
        unfold bltA at he
        split at he
        · simp at hw
        · obtain ⟨i, hi, he⟩ := withTy_spec he
          obtain ⟨i2, hi2, he⟩ := withTy_spec he
          unfold appendA at he
          have key : ∀ {e es eb : Nat} {a b : AV}, appendB P e es eb h a b = some (v, h') → h'.tidy := by
            intro e es eb a b hk
            unfold appendB at hk
            split at hk
            · split at hk
              · split at hk
                · split at hk
                  · cases hk; exact ht
                  · split at hk
                    · cases hk; exact HP.tidy_add ht _
                    · cases hk
                · split at hk
                  · split at hk
                    · cases hk; exact HP.tidy_move ht _ _
                    · cases hk
                  · cases hk
                · cases hk
              · cases hk
            · cases hk
          split at he
          · exact key he
          · exact key he
          · cases he
        · obtain ⟨i, hi, he⟩ := withTy_spec he
          unfold copyA at he
          split at he
          · split at he
            · rename_i b m cs hb hsr
              split at he
              · cases he; exact HP.tidy_upd ht hb
              · cases he
            · cases he
          · cases he
        · simp at hw
        · simp at hw
        · cases he

theorem aeff_tidy {ops : List Oper} {o : Oper} {tm : Nat → AV} {h h' : HP} {v : AV} (ht : h.tidy) (he : AEff P ops o tm h v h') : h'.tidy := by
  unfold AEff at he
  split at he
  · split at he
    · rw [he.2]; exact ht
    · exact exec_tidy ht he
  · rw [he.2]; exact ht
  · exact he.elim
theorem put_h (τ : AS) (d : Option Tmp) (v : AV) : (τ.put d v).h = τ.h := by cases d <;> rfl
theorem astep_tidy {ops : List Oper} {i : Nat} {σ σ' : AS} (ht : σ.h.tidy) (hs : AStep P ops i σ σ') : σ'.h.tidy := by
  cases ho : ops[i]? with
  | none => unfold AStep at hs; rw [ho] at hs; simp only at hs; subst hs; exact ht
  | some o =>
    obtain ⟨v, h', he, rfl⟩ := (astep_iff ho _ _).1 hs
    rw [put_h]
    exact aeff_tidy ht he

/-- Two operations, the first one of which may be done behind the second one. -/
def indep2 (ops : Array Oper) (x y : Oper) : Bool := indep ops x y || (x.apart ops y && ((!wr x.op && adds y.op) || (asks x.op && stos y.op)))

theorem astep_comm2 {ops : Array Oper} {i j : Nat} {oi oj : Oper} (hi : ops[i]? = some oi) (hj : ops[j]? = some oj) (hind : indep2 ops oi oj = true) {σ σ1 σ2 : AS} (ht : σ.h.tidy)
    (h1 : AStep P ops.toList i σ σ1) (h2 : AStep P ops.toList j σ1 σ2) : ∃ σ1', AStep P ops.toList j σ σ1' ∧ AStep P ops.toList i σ1' σ2 := by
  unfold indep2 at hind
  rw [Bool.or_eq_true] at hind
  rcases hind with hind | hind
  · exact astep_comm hi hj hind h1 h2
  have hi' : ops.toList[i]? = some oi := by simpa using hi
  have hj' : ops.toList[j]? = some oj := by simpa using hj
  obtain ⟨v1, k1, e1, rfl⟩ := (astep_iff hi' _ _).1 h1
  obtain ⟨v2, k2, e2, rfl⟩ := (astep_iff hj' _ _).1 h2
  simp only [Bool.and_eq_true, Bool.or_eq_true, Bool.not_eq_true'] at hind
  obtain ⟨hap, hcase⟩ := hind
  obtain ⟨a1, a2, a3⟩ := Oper.apart_spec hap
  have tm_put : ∀ (τ : AS) (d : Option Tmp) (v : AV) (t : Nat), (∀ x, d = some x → t ≠ x) → (τ.put d v).tm t = τ.tm t := by
    intro τ d v t h
    cases d with
    | none => rfl
    | some x => exact upd_other _ _ _ _ (h x rfl)
  rw [put_h] at e2
  simp only at e2
  have e2' : AEff P ops.toList oj σ.tm k1 v2 k2 := aeff_congr (fun t ht => tm_put (AS.mk σ.tm k1) oi.dst v1 t fun x hx hxt => a1 x hx (hxt ▸ ht)) e2
  have put_put : ∀ (k h : HP), (AS.mk ((AS.mk σ.tm k).put oi.dst v1).tm k2).put oj.dst v2 = (AS.mk ((AS.mk σ.tm h).put oj.dst v2).tm k2).put oi.dst v1 := by
    intro k h
    cases hdi : oi.dst with
    | none => cases oj.dst <;> rfl
    | some x =>
      cases hdj : oj.dst with
      | none => rfl
      | some y => exact congrArg (fun f => AS.mk f k2) (upd_comm _ _ _ _ _ (fun he => a2 x hdi (he ▸ hdj)))
  have hwi : wr oi.op = false := by
    rcases hcase with h | h
    · exact h.1
    · have := h.1
      cases hop : oi.op <;> simp [hop, asks] at this <;> rfl
  have hk1 : k1 = σ.h := aeff_wr hwi e1
  subst hk1
  have e1' : AEff P ops.toList oi σ.tm k2 v1 k2 := by
    rcases hcase with ⟨_, hadd⟩ | ⟨hask, hsto⟩
    · refine aeff_le ?_ hwi e1
      unfold AEff at e2'
      split at e2'
      · split at e2'
        · rename_i f args ts hop
          rw [hop] at hadd
          simp [adds] at hadd
        · obtain ⟨b, rfl⟩ := exec_adds hadd e2'
          exact HP.le_add ht b
      · rw [e2'.2]; exact fun _ _ h => h
      · exact e2'.elim
    · have hdm : σ.h.dm k2 := by
        unfold AEff at e2'
        split at e2'
        · split at e2'
          · rename_i f args ts hop
            rw [hop] at hsto
            simp [stos] at hsto
          · obtain ⟨id, b, c, hb, rfl⟩ := exec_stos hsto e2'
            exact HP.dm_upd hb
        · rw [e2'.2]; exact fun _ => rfl
        · exact e2'.elim
      unfold AEff at e1 ⊢
      split at e1
      · split at e1
        · rename_i f args ts hop
          rw [hop] at hask
          simp [asks] at hask
        · rw [exec_congr (ρ' := (AS.mk σ.tm σ.h).ev) fun x _ => ev_congr x fun t _ => rfl]
          exact exec_asks hdm hask e1
      · exact ⟨e1.1, rfl⟩
      · exact e1.elim
  refine ⟨(AS.mk σ.tm k2).put oj.dst v2, (astep_iff hj' _ _).2 ⟨v2, k2, e2', rfl⟩, (astep_iff hi' _ _).2 ⟨v1, k2, ?_, ?_⟩⟩
  · rw [put_h]
    exact aeff_congr (tm := σ.tm) (fun t ht => (tm_put (AS.mk σ.tm k2) oj.dst v2 t fun x hx hxt => a3 x hx (hxt ▸ ht)).symm) e1'
  · exact put_put _ _

/-! ### A store behind a load of another block -/
def ptrNe (x y : AV) : Prop :=
  match x, y with
  | .ptr a _, .ptr b _ => a ≠ b
  | _, _ => False
theorem loadA_other {i : TyI} {h : HP} {a b off : Nat} {c : Blk} (hab : a ≠ b) : loadA i { h with bk := upd h.bk b (some c) } (.ptr a off) = loadA i h (.ptr a off) := by
  unfold loadA
  simp only [upd_other _ _ _ _ hab]
theorem storeA_at {i : TyI} {h h' : HP} {b off : Nat} {v : AV} (hs : storeA i h (.ptr b off) v = some h') : ∃ c, h' = { h with bk := upd h.bk b (some c) } := by
  unfold storeA at hs
  simp only at hs
  split at hs
  · split at hs
    · split at hs
      · cases hs; exact ⟨_, rfl⟩
      · cases hs
    · split at hs
      · cases hs; exact ⟨_, rfl⟩
      · cases hs
  · cases hs

theorem astep_comm3 {ops : Array Oper} {i j : Nat} {oi oj : Oper} (hi : ops[i]? = some oi) (hj : ops[j]? = some oj) (hap : oi.apart ops oj = true) {t t' : TypeId} {q p : Tmp} {x : Operand}
    (hoi : oi.op = .load t (.tmp q)) (hoj : oj.op = .store t' (.tmp p) x) {σ σ1 σ2 : AS} (hne : ptrNe (σ.tm q) (σ.tm p))
    (h1 : AStep P ops.toList i σ σ1) (h2 : AStep P ops.toList j σ1 σ2) : ∃ σ1', AStep P ops.toList j σ σ1' ∧ AStep P ops.toList i σ1' σ2 := by
  have hi' : ops.toList[i]? = some oi := by simpa using hi
  have hj' : ops.toList[j]? = some oj := by simpa using hj
  obtain ⟨v1, k1, e1, rfl⟩ := (astep_iff hi' _ _).1 h1
  obtain ⟨v2, k2, e2, rfl⟩ := (astep_iff hj' _ _).1 h2
  obtain ⟨a1, a2, a3⟩ := Oper.apart_spec hap
  have tm_put : ∀ (τ : AS) (d : Option Tmp) (v : AV) (t : Nat), (∀ x, d = some x → t ≠ x) → (τ.put d v).tm t = τ.tm t := by
    intro τ d v t h
    cases d with
    | none => rfl
    | some x => exact upd_other _ _ _ _ (h x rfl)
  rw [put_h] at e2
  simp only at e2
  have e2' : AEff P ops.toList oj σ.tm k1 v2 k2 := aeff_congr (fun t ht => tm_put (AS.mk σ.tm k1) oi.dst v1 t fun x hx hxt => a1 x hx (hxt ▸ ht)) e2
  have put_put : ∀ (k h : HP), (AS.mk ((AS.mk σ.tm k).put oi.dst v1).tm k2).put oj.dst v2 = (AS.mk ((AS.mk σ.tm h).put oj.dst v2).tm k2).put oi.dst v1 := by
    intro k h
    cases hdi : oi.dst with
    | none => cases oj.dst <;> rfl
    | some x =>
      cases hdj : oj.dst with
      | none => rfl
      | some y => exact congrArg (fun f => AS.mk f k2) (upd_comm _ _ _ _ _ (fun he => a2 x hdi (he ▸ hdj)))
  have hwi : wr oi.op = false := by rw [hoi]; rfl
  have hk1 : k1 = σ.h := aeff_wr hwi e1
  subst hk1
  have e1' : AEff P ops.toList oi σ.tm k2 v1 k2 := by
    unfold ptrNe at hne
    split at hne
    · rename_i a offa b offb hq hp
      have hh : k2 = σ.h ∨ ∃ c, k2 = { σ.h with bk := upd σ.h.bk b (some c) } := by
        unfold AEff at e2'
        split at e2'
        · rw [hoj] at e2'
          simp only [exec] at e2'
          obtain ⟨ti, hti, e2'⟩ := withTy_spec e2'
          obtain ⟨c, hc, e2'⟩ := map_some e2'
          cases e2'
          have hev : (AS.mk σ.tm σ.h).ev (.tmp p) = .ptr b offb := hp
          rw [hev] at hc
          exact .inr (storeA_at hc)
        · exact .inl e2'.2
        · exact e2'.elim
      unfold AEff at e1 ⊢
      split at e1
      · rw [hoi] at e1 ⊢
        simp only [exec] at e1 ⊢
        obtain ⟨ti, hti, e1⟩ := withTy_spec e1
        obtain ⟨c, hc, e1⟩ := map_some e1
        cases e1
        have hev : ∀ k : HP, (AS.mk σ.tm k).ev (.tmp q) = .ptr a offa := fun _ => hq
        rw [hev] at hc ⊢
        have : loadA ti k2 (.ptr a offa) = some v1 := by
          rcases hh with rfl | ⟨c, rfl⟩
          · exact hc
          · rw [loadA_other hne]; exact hc
        simp [withTy, hti, this]
      · exact ⟨e1.1, rfl⟩
      · exact e1.elim
    · exact hne.elim
  refine ⟨(AS.mk σ.tm k2).put oj.dst v2, (astep_iff hj' _ _).2 ⟨v2, k2, e2', rfl⟩, (astep_iff hi' _ _).2 ⟨v1, k2, ?_, ?_⟩⟩
  · rw [put_h]
    exact aeff_congr (tm := σ.tm) (fun t ht => (tm_put (AS.mk σ.tm k2) oj.dst v2 t fun x hx hxt => a3 x hx (hxt ▸ ht)).symm) e1'
  · exact put_put _ _
theorem astep_keeps {ops : List Oper} {i : Nat} {σ σ' : AS} {p : Tmp} (hd : ∀ o, ops[i]? = some o → o.dst ≠ some p) (hs : AStep P ops i σ σ') : σ'.tm p = σ.tm p := by
  cases ho : ops[i]? with
  | none => unfold AStep at hs; rw [ho] at hs; simp only at hs; subst hs; rfl
  | some o =>
    obtain ⟨v, h', he, rfl⟩ := (astep_iff ho _ _).1 hs
    have := hd o ho
    cases hdd : o.dst with
    | none => rfl
    | some x =>
      have hx : p ≠ x := fun he => this (by rw [hdd, he])
      exact upd_other _ _ _ _ hx
end Go.Am
