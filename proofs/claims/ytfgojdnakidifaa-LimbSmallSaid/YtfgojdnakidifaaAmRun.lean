/-
  'Am', part 17: runs of a function's code; contracts from runs.
-/
import Derived.Test.YtfgojdnakidifaaAmAny
set_option linter.unusedSimpArgs false
set_option linter.unusedVariables false
namespace Go.Am
variable {P : Program} {X : Ctx}

/-! ### Every region of a code is in order -/
/-- A function, and the regions that have rules of their own. -/
structure FnE where
  fn : Func
  ex : List Nat
def okCode (N : Nat) (ex : List Nat) : Code → Bool
  | .region id ops d => ex.contains id || regOkD N ops d
  | .seq a b => okCode N ex a && okCode N ex b
  | .cond _ a b => okCode N ex a && okCode N ex b
  | .block _ c => okCode N ex c
  | .loop c => okCode N ex c
  | .scope c => okCode N ex c
  | .rangeFunc _ _ _ _ => false
  | _ => true
def okItem (N : Nat) (ex : List Nat) : Item → Bool
  | .code c => okCode N ex c
  | .inBlock _ => true
  | .inLoop c => okCode N ex c
  | .inScope c => okCode N ex c
  | _ => false
def okTodo (N : Nat) (ex : List Nat) (k : List Item) : Bool := k.all (okItem N ex)

theorem ok_exitTo {N id : Nat} {ex : List Nat} : ∀ {k k' : List Item}, okTodo N ex k = true → exitTo id k = some k' → okTodo N ex k' = true
  | [], _, _, h => by simp [exitTo] at h
  | x :: k, k', hk, h => by
    simp only [okTodo, List.all_cons, Bool.and_eq_true] at hk
    cases x <;> simp only [exitTo] at h <;> try exact ok_exitTo hk.2 h
    split at h
    · cases h; exact hk.2
    · exact ok_exitTo hk.2 h
theorem ok_findLabel {N l : Nat} {ex : List Nat} : ∀ {c c' : Code}, okCode N ex c = true → findLabel c l = some c' → okCode N ex c' = true
  | .seq a b, c', h, hf => by
    simp only [okCode, Bool.and_eq_true] at h
    unfold findLabel at hf
    split at hf
    · rename_i rest hr
      cases hf
      simp only [okCode, Bool.and_eq_true]
      exact ⟨ok_findLabel h.1 hr, h.2⟩
    · exact ok_findLabel h.2 hf
  | .label l', c', h, hf => by
    unfold findLabel at hf
    split at hf <;> cases hf
    rfl
  | .skip, _, _, hf | .region _ _ _, _, _, hf | .cond _ _ _, _, _, hf | .block _ _, _, _, hf | .loop _, _, _, hf | .rangeFunc _ _ _ _, _, _, hf | .exit _, _, _, hf | .scope _, _, _, hf | .goto _, _, _, hf | .ret, _, _, hf | .refuse _, _, _, hf => by simp [findLabel] at hf
theorem ok_gotoIn {N l : Nat} {ex : List Nat} : ∀ {k k' : List Item}, okTodo N ex k = true → gotoIn l k = some k' → okTodo N ex k' = true
  | [], _, _, h => by simp [gotoIn] at h
  | x :: k, k', hk, h => by
    have hk0 := hk
    simp only [okTodo, List.all_cons, Bool.and_eq_true] at hk
    cases x <;> simp only [gotoIn] at h <;> try exact ok_gotoIn hk.2 h
    split at h
    · rename_i rest hr
      cases h
      simp only [okItem] at hk
      simp only [okTodo, List.all_cons, Bool.and_eq_true, okItem]
      exact ⟨ok_findLabel hk.1 hr, hk.1, hk.2⟩
    · exact ok_gotoIn hk.2 h

/-! ### Results -/
def resVar (P : Program) (σ : AS) : ResultVar → Option AV
  | .tmp t => some (σ.tm t)
  | .cell a t => withTy P t fun i => loadA i σ.h (σ.tm a)
def resVars (P : Program) (σ : AS) : List ResultVar → Option (List AV)
  | [] => some []
  | v :: vs => match resVar P σ v, resVars P σ vs with
    | some a, some as => some (a :: as)
    | _, _ => none
def resA (P : Program) (fn : Func) (σ : AS) : Option AV :=
  match resVars P σ fn.results.toList with
  | some [a] => some (view σ.h a)
  | some as => some (.tup (as.map (view σ.h)))
  | none => none

theorem resVar_sound {N : Nat} {σ : AS} {M : Mem} {a : Act} (R : Rel N X σ M a) {v : ResultVar} {c : AV} (hc : resVar P σ v = some c) :
    ∃ u, ((fun (v : ResultVar) => match v with
      | .tmp t => (pure (a.tmps.getD t undef) : Sem Value)
      | .cell ad t => do loadVar t (← asAddr (a.tmps.getD ad undef))) v).run P M.w = .ok u M.w ∧ VRel M true c u := by
  cases v with
  | tmp t =>
    simp only [resVar, Option.some.injEq] at hc
    subst hc
    exact ⟨_, rfl, R.tm t⟩
  | cell ad t =>
    obtain ⟨i, hi, hl⟩ := withTy_spec hc
    obtain ⟨u, hu, hr⟩ := loadA_sound R.heap hi (R.tm ad) hl
    have hp : ∃ q, a.tmps.getD ad undef = .pointer (some q) := by
      have hrel := R.tm ad
      unfold loadA at hl
      split at hl
      · rename_i id off hp
        rw [hp] at hrel
        split at hl
        · rename_i k hk
          obtain ⟨_, _, _, h7⟩ := hrel
          exact ⟨_, h7 ((R.heap.dom id).2 (by simp [hk]))⟩
        · cases hl
      · rename_i cs hp
        rw [hp] at hrel
        obtain ⟨_, _, _, _, _, h, _⟩ := hrel
        exact ⟨_, h⟩
      · cases hl
    obtain ⟨q, hq⟩ := hp
    rw [hq] at hu
    refine ⟨u, ?_, hr⟩
    simp only [hq, asAddr, pure_bind]
    simpa [Instr.loadAt, Instr.sureAddr] using hu
theorem resVars_sound {N : Nat} {σ : AS} {M : Mem} {a : Act} (R : Rel N X σ M a) : ∀ {vs : List ResultVar} {cs : List AV}, resVars P σ vs = some cs →
    ∃ us, (vs.mapM (m := Sem) fun (v : ResultVar) => match v with
      | .tmp t => (pure (a.tmps.getD t undef) : Sem Value)
      | .cell ad t => do loadVar t (← asAddr (a.tmps.getD ad undef))).run P M.w = .ok us M.w ∧ VRels M true cs us
  | [], cs, h => by cases h; exact ⟨[], rfl, rfl⟩
  | v :: vs, cs, h => by
    unfold resVars at h
    split at h
    · rename_i c cs' h1 h2
      cases h
      obtain ⟨u, hu, hr⟩ := resVar_sound (P := P) R h1
      obtain ⟨us, hus, hrs⟩ := resVars_sound R h2
      refine ⟨u :: us, ?_, u, us, rfl, hr, hrs⟩
      rw [List.mapM_cons]
      simp only [Sem.run_bind, hu, Result.andThen_ok, hus, Sem.run_pure]
    · cases h

theorem resA_sound {N : Nat} {σ : AS} {M : Mem} {a : Act} (R : Rel N X σ M a) {fn : Func} {c : AV} (hc : resA P fn σ = some c) :
    ∃ u, (results fn a.tmps).run P M.w = .ok u M.w ∧ VRel (Mem.callee M.O M.w) false c u := by
  unfold resA at hc
  have fin : ∀ as : List AV, resVars P σ fn.results.toList = some as → ∃ us : List Value, (results fn a.tmps).run P M.w = .ok (if h : (⟨us⟩ : Array Value).size = 1 then (⟨us⟩ : Array Value)[0] else .tuple ⟨us⟩) M.w ∧ VRels M true as us := by
    intro as has
    obtain ⟨us, hus, hrs⟩ := resVars_sound R has
    refine ⟨us, ?_, hrs⟩
    unfold results
    rw [Sem.run_bind, Array.mapM_eq_mapM_toList, Sem.run_map]
    refine (congrArg (fun (z : Result (List Value)) => ((z.andThen fun a w' => Result.ok a.toArray w').andThen fun (a : Array Value) w' => (pure (if h : a.size = 1 then a[0] else .tuple a) : Sem Value).run P w')) hus).trans ?_
    rfl
  split at hc
  · rename_i q hq
    cases hc
    obtain ⟨us, hrun, hrs⟩ := fin _ hq
    obtain ⟨u, l, rfl, h1, h2⟩ := hrs
    cases h2
    exact ⟨u, by simpa using hrun, view_rel R.heap h1⟩
  · rename_i as hne hq
    cases hc
    obtain ⟨us, hrun, hrs⟩ := fin _ hq
    have hl := hrs.length
    have hn1 : ¬ ((⟨us⟩ : Array Value).size = 1) := by
      simp only [List.size_toArray]
      intro h1
      match as, hl with
      | [q], _ => exact hne q rfl
      | [], hl => simp only [List.length_nil] at hl; omega
      | _ :: _ :: _, hl => simp only [List.length_cons] at hl; omega
    rw [dif_neg hn1] at hrun
    exact ⟨_, hrun, us, rfl, views_rel R.heap hrs⟩
  · cases hc

/-! ### Runs -/
def GoA (P : Program) (fn : FnE) (todo : List Item) (σ : AS) (r : AV) : Prop :=
  okTodo fn.fn.ntmps fn.ex todo = true → ∀ (X : Ctx) (M : Mem) (a : Act), X.S = (fun _ => False) → Rel fn.fn.ntmps X σ M a → ∀ (b : Frame) (cs : List Frame), b.kind = .normal → P.funcs[b.fn]? = some fn.fn →
    ∃ v w' fr, (Kept X.S X.w0 w' ∧ VRel (Mem.callee M.O w') false r v) ∧ Steps P (lone (b.at a todo) cs M.w) (lone fr cs w') ∧ fr.fn = b.fn ∧ fr.leaving P w' (.returned v)

theorem GoA.step {fn : FnE} {t1 t2 : List Item} {σ : AS} {r : AV} (h : GoA P fn t2 σ r) (ho : okTodo fn.fn.ntmps fn.ex t1 = true → okTodo fn.fn.ntmps fn.ex t2 = true)
    (hs : ∀ (b : Frame) (a : Act) (cs : List Frame) (w : World), step P (lone (b.at a t1) cs w) = .next (lone (b.at a t2) cs w)) : GoA P fn t1 σ r :=
  fun hok X M a hS R b cs hb hf =>
    let ⟨v, w', fr, h1, h2, h3⟩ := h (ho hok) X M a hS R b cs hb hf
    ⟨v, w', fr, h1, .head (hs b a cs M.w) h2, h3⟩

theorem GoA.ret {fn : FnE} {k : List Item} {σ : AS} {r : AV} (h : resA P fn.fn σ = some r) : GoA P fn (.code .ret :: k) σ r := by
  intro _ X M a hS R b cs hb hf
  obtain ⟨u, hu, hr⟩ := resA_sound R h
  exact ⟨u, M.w, _, ⟨R.heap.kept, hr⟩, .one step_ret, rfl, rfl, R.defers, hb, fn.fn, hf, hu⟩
theorem GoA.done {fn : FnE} {σ : AS} {r : AV} (h : resA P fn.fn σ = some r) : GoA P fn [] σ r := by
  intro _ X M a hS R b cs hb hf
  obtain ⟨u, hu, hr⟩ := resA_sound R h
  exact ⟨u, M.w, _, ⟨R.heap.kept, hr⟩, .one step_end, rfl, rfl, R.defers, hb, fn.fn, hf, hu⟩
theorem GoA.cond {fn : FnE} {c : Operand} {x y : Code} {k : List Item} {σ : AS} {r : AV} {t : Bool} (hc : σ.ev c = .bool t) (h : GoA P fn (.code (if t then x else y) :: k) σ r) : GoA P fn (.code (.cond c x y) :: k) σ r := by
  intro hok X M a hS R b cs hb hf
  have hv := ev_rel R c
  rw [hc] at hv
  simp only [VRel] at hv
  have ho : okTodo fn.fn.ntmps fn.ex (.code (if t then x else y) :: k) = true := by
    simp only [okTodo, List.all_cons, Bool.and_eq_true, okItem, okCode] at hok ⊢
    exact ⟨by cases t <;> simp [hok.1], hok.2⟩
  obtain ⟨v, w', fr, h1, h2, h3⟩ := h ho X M a hS R b cs hb hf
  exact ⟨v, w', fr, h1, .head (step_cond hv) h2, h3⟩

theorem GoA.region {fn : FnE} {id : Nat} {ops : Array Oper} {draw : Bool} {k : List Item} {σ σ' : AS} {r : AV} (hx : fn.ex.contains id = false) (hm : P.follows .mixedOrders = true) (hs : ASteps P ops.toList (List.range ops.size) σ σ') (h : GoA P fn k σ' r) :
    GoA P fn (.code (.region id ops draw) :: k) σ r := by
  intro hok X M a hS R b cs hb hf
  simp only [okTodo, List.all_cons, Bool.and_eq_true, okItem, okCode, hx, Bool.false_or] at hok
  have W := region_sound (draw := draw) (id := id) hm hok.1 (Q := fun e a' w' => e = .normal ∧ ∃ M', Rel fn.fn.ntmps X σ' M' a' ∧ M'.O = M.O ∧ M'.w = w') hs R (fun M' a' R' hO => ⟨rfl, M', R', hO, rfl⟩)
  obtain ⟨e, a', w', ⟨rfl, M', R', hO, rfl⟩, harr⟩ := W b k cs
  obtain ⟨v, w', fr, h1, h2, h3⟩ := h hok.2 X M' a' hS R' b cs hb hf
  rw [hO] at h1
  exact ⟨v, w', fr, h1, Steps.trans harr h2, h3⟩

/-- A region that has a rule of its own: slots' pairs. -/
theorem GoA.region2 {fn : FnE} {id : Nat} {ops : Array Oper} {k : List Item} {σ σ' : AS} {r : AV} {dyn : List (Tmp × Tmp)} (hm : P.follows .mixedOrders = true) (hok : regionOk2 fn.fn.ntmps ops none dyn = true)
    (hs : ASteps P ops.toList (List.range ops.size) σ σ') (hd : dynOk dyn σ'.tm) (h : GoA P fn k σ' r) : GoA P fn (.code (.region id ops true) :: k) σ r := by
  intro hk X M a hS R b cs hb hf
  simp only [okTodo, List.all_cons, Bool.and_eq_true] at hk
  have W := region_sound2 (id := id) hm hok (Q := fun e a' w' => e = .normal ∧ ∃ M', Rel fn.fn.ntmps X σ' M' a' ∧ M'.O = M.O ∧ M'.w = w') hs hd R (fun M' a' R' hO => ⟨rfl, M', R', hO, rfl⟩)
  obtain ⟨e, a', w', ⟨rfl, M', R', hO, rfl⟩, harr⟩ := W b k cs
  obtain ⟨v, w', fr, h1, h2, h3⟩ := h hk.2 X M' a' hS R' b cs hb hf
  rw [hO] at h1
  exact ⟨v, w', fr, h1, Steps.trans harr h2, h3⟩
/-- A region of which two operations come in two orders. -/
theorem GoA.region3 {fn : FnE} {id : Nat} {ops : Array Oper} {k : List Item} {σ σ0 σ1 σ2 : AS} {r : AV} {q : Nat} (hm : P.follows .mixedOrders = true) (hok : regionOk2 fn.fn.ntmps ops (some q) [] = true) (hla : lastOk ops q = true)
    (hs0 : ASteps P ops.toList (List.range q) σ σ0) (hs1 : ASteps P ops.toList (q :: (q + 1) :: List.range' (q + 2) (ops.size - q - 2)) σ0 σ1) (hs2 : ASteps P ops.toList ((q + 1) :: q :: List.range' (q + 2) (ops.size - q - 2)) σ0 σ2)
    (h : GoA P fn k σ1 r) (h' : GoA P fn k σ2 r) : GoA P fn (.code (.region id ops true) :: k) σ r := by
  intro hk X M a hS R b cs hb hf
  simp only [okTodo, List.all_cons, Bool.and_eq_true] at hk
  have W := region_sound3 (id := id) hm hok hla (Q := fun e a' w' => e = .normal ∧ ∃ M', (Rel fn.fn.ntmps X σ1 M' a' ∨ Rel fn.fn.ntmps X σ2 M' a') ∧ M'.O = M.O ∧ M'.w = w') hs0 hs1 hs2 R
    (fun M' a' R' hO => ⟨rfl, M', .inl R', hO, rfl⟩) (fun M' a' R' hO => ⟨rfl, M', .inr R', hO, rfl⟩)
  obtain ⟨e, a', w', ⟨rfl, M', R', hO, rfl⟩, harr⟩ := W b k cs
  rcases R' with R' | R'
  · obtain ⟨v, w', fr, h1, h2, h3⟩ := h hk.2 X M' a' hS R' b cs hb hf
    rw [hO] at h1
    exact ⟨v, w', fr, h1, Steps.trans harr h2, h3⟩
  · obtain ⟨v, w', fr, h1, h2, h3⟩ := h' hk.2 X M' a' hS R' b cs hb hf
    rw [hO] at h1
    exact ⟨v, w', fr, h1, Steps.trans harr h2, h3⟩
theorem GoA.inLoop {fn : FnE} {c : Code} {k : List Item} {σ : AS} {r : AV} (h : GoA P fn (.code c :: .inLoop c :: k) σ r) : GoA P fn (.inLoop c :: k) σ r :=
  h.step (fun ho => by simp only [okTodo, List.all_cons, Bool.and_eq_true, okItem] at ho ⊢; exact ⟨ho.1, ho.1, ho.2⟩) (fun _ _ _ _ => step_inLoop)
theorem GoA.loop {fn : FnE} {c : Code} {k : List Item} {σ : AS} {r : AV} (h : GoA P fn (.inLoop c :: k) σ r) : GoA P fn (.code (.loop c) :: k) σ r := by
  -- one step into the loop is the step that 'inLoop' takes
  intro hok X M a hS R b cs hb hf
  have ho : okTodo fn.fn.ntmps fn.ex (.inLoop c :: k) = true := by simpa [okTodo, okItem, okCode] using hok
  obtain ⟨v, w', fr, h1, ⟨n, hn⟩, h3⟩ := h ho X M a hS R b cs hb hf
  cases n with
  | zero =>
    simp only [runN] at hn
    have : fr = b.at a (.inLoop c :: k) := by
      injection hn with hn
      have := congrArg (fun (m : Machine) => (m.gs[0]?).map (·.frame)) hn
      simpa [lone] using this.symm
    subst this
    have := h3.2.1
    simp [Frame.at] at this
  | succ n =>
    rw [runN, step_inLoop] at hn
    exact ⟨v, w', fr, h1, .head step_loop ⟨n, hn⟩, h3⟩

/-! ### The conditions of a run, by reckoning -/
def bindV {α : Type} (o : Option α) (K : α → Prop) : Prop :=
  match o with
  | some a => K a
  | none => False
def boolV (o : AV) (x y : Prop) : Prop :=
  match o with
  | .bool b => (b = true → x) ∧ (b = false → y)
  | _ => False
def guardV (o : Option Bool) (x y : Prop) : Prop :=
  match o with
  | some b => (b = true → x) ∧ (b = false → y)
  | none => False
/-- A call: its answer by a contract. -/
def CallV (P : Program) (f : AV) (args : List AV) (h : HP) (K : AV → Prop) : Prop :=
  ∃ g first caps r, f = .fn (.func g) first caps ∧ Callable P g ∧ CallOk P g (first ++ args ++ caps) h r ∧ K r

def execV (P : Program) (o : Oper) (σ : AS) (K : AS → Prop) : Prop :=
  match o.op with
  | .call { callee := .value f, args, .. } => CallV P (σ.ev f) (args.toList.map σ.ev) σ.h fun r => K (σ.put o.dst r)
  | op => bindV (exec P op σ.ev σ.h) fun x => K ((AS.mk σ.tm x.2).put o.dst x.1)
def opsV (P : Program) (L : List Oper) : List Oper → AS → (AS → Prop) → Prop
  | [], σ, K => K σ
  | o :: os, σ, K => guardV (guardA L o σ.tm) (execV P o σ fun σ' => opsV P L os σ' K) (opsV P L os (σ.put o.dst .dead) K)

def vc (P : Program) (fn : FnE) : Nat → List Item → AS → AV → Prop
  | 0, todo, σ, r => GoA P fn todo σ r
  | _ + 1, [], σ, r => resA P fn.fn σ = some r
  | n + 1, x :: k, σ, r => match x with
    | .inBlock _ | .inScope _ => vc P fn n k σ r
    | .inLoop body => GoA P fn (.inLoop body :: k) σ r
    | .code c => match c with
      | .ret => resA P fn.fn σ = some r
      | .skip | .label _ => vc P fn n k σ r
      | .seq a b => vc P fn n (.code a :: .code b :: k) σ r
      | .cond c x y => boolV (σ.ev c) (vc P fn n (.code x :: k) σ r) (vc P fn n (.code y :: k) σ r)
      | .block id body => vc P fn n (.code body :: .inBlock id :: k) σ r
      | .loop body => GoA P fn (.inLoop body :: k) σ r
      | .scope body => vc P fn n (.code body :: .inScope body :: k) σ r
      | .exit id => bindV (exitTo id k) fun k' => vc P fn n k' σ r
      | .goto l => bindV (gotoIn l k) fun k' => GoA P fn k' σ r
      | .region id ops d => if fn.ex.contains id = true then GoA P fn (.code (.region id ops d) :: k) σ r else opsV P ops.toList ops.toList σ fun σ' => vc P fn n k σ' r
      | .rangeFunc _ _ _ _ | .refuse _ => False
    | _ => False

theorem opsV_soundL (L : List Oper) : ∀ (il : List Nat) (os : List Oper), il.map (fun i => L[i]?) = os.map some → ∀ (σ : AS) (K : AS → Prop), opsV P L os σ K → ∃ σ', ASteps P L il σ σ' ∧ K σ' := by
  intro il
  induction il with
  | nil =>
    intro os he σ K h
    cases os with
    | nil => exact ⟨σ, rfl, h⟩
    | cons o os => simp at he
  | cons n il ih =>
    intro os he σ K h
    cases os with
    | nil => simp at he
    | cons o os =>
    simp only [List.map_cons, List.cons.injEq] at he
    obtain ⟨hget, he⟩ := he
    simp only [opsV] at h
    cases hg : guardA L o σ.tm with
    | none => simp [hg, guardV] at h
    | some b =>
      simp only [hg, guardV] at h
      cases b
      · obtain ⟨σ', h1, h2⟩ := ih os he _ K (h.2 rfl)
        exact ⟨σ', ⟨_, by simp only [AStep, hget, hg], h1⟩, h2⟩
      · have hx := h.1 rfl
        unfold execV at hx
        split at hx
        · rename_i f args ts hop
          obtain ⟨g, first, caps, r, h1, ⟨fn, q1, q2, q3⟩, h3, h4⟩ := hx
          obtain ⟨σ', p1, p2⟩ := ih os he _ K h4
          refine ⟨σ', ⟨σ.put o.dst r, ?_, p1⟩, p2⟩
          simp only [AStep, hget, hg, AExec, hop]
          exact ⟨g, first, caps, r, fn, q1, q2, q3, h1, h3, rfl⟩
        · rename_i op hne
          cases he2 : exec P o.op σ.ev σ.h with
          | none => simp [he2, bindV] at hx
          | some vh =>
            simp only [he2, bindV] at hx
            obtain ⟨σ', p1, p2⟩ := ih os he _ K hx
            refine ⟨σ', ⟨_, ?_, p1⟩, p2⟩
            simp only [AStep, hget, hg]
            unfold AExec
            obtain ⟨dst, op, ty, pos, aft, gd⟩ := o
            cases op <;> try exact ⟨vh.1, vh.2, he2, rfl⟩
            rename_i c
            obtain ⟨callee, args, ts⟩ := c
            cases callee <;> try exact ⟨vh.1, vh.2, he2, rfl⟩
            exact (hne _ _ _ rfl).elim
theorem opsV_mono {L : List Oper} {K K' : AS → Prop} (hK : ∀ σ', K σ' → K' σ') : ∀ (os : List Oper) (σ : AS), opsV P L os σ K → opsV P L os σ K'
  | [], σ, h => hK σ h
  | o :: os, σ, h => by
    simp only [opsV] at h ⊢
    cases hg : guardA L o σ.tm with
    | none => simp [hg, guardV] at h
    | some b =>
      simp only [hg, guardV] at h ⊢
      refine ⟨fun hb => ?_, fun hb => opsV_mono hK os _ (h.2 hb)⟩
      have h1 := h.1 hb
      unfold execV at h1 ⊢
      split
      · rename_i f args ts hop
        rw [hop] at h1
        simp only at h1
        obtain ⟨g, first, caps, r, e1, e2, e3, e4⟩ := h1
        exact ⟨g, first, caps, r, e1, e2, e3, opsV_mono hK os _ e4⟩
      · rename_i op hne
        split at h1
        · rename_i f args ts hop
          exact (hne _ _ _ hop).elim
        · cases he : exec P o.op σ.ev σ.h with
          | none => simp [he, bindV] at h1
          | some x =>
            simp only [he, bindV] at h1 ⊢
            exact opsV_mono hK os _ h1
theorem idx_range' (L : List Oper) (n : Nat) : (List.range' n (L.length - n)).map (fun i => L[i]?) = (L.drop n).map some := by
  apply List.ext_getElem?
  intro j
  simp only [List.getElem?_map, List.getElem?_drop]
  by_cases hj : j < L.length - n
  · rw [List.getElem?_range' hj]
    have : n + j < L.length := by omega
    simp [List.getElem?_eq_getElem this]
  · rw [List.getElem?_eq_none (l := List.range' n (L.length - n)) (by simp; omega), List.getElem?_eq_none (l := L) (by omega)]
    rfl
theorem idx_range (L : List Oper) {q : Nat} (hq : q ≤ L.length) : (List.range q).map (fun i => L[i]?) = (L.take q).map some := by
  apply List.ext_getElem?
  intro j
  simp only [List.getElem?_map, List.getElem?_take]
  by_cases hj : j < q
  · rw [List.getElem?_range hj]
    have : j < L.length := by omega
    simp [List.getElem?_eq_getElem this, hj]
  · rw [List.getElem?_eq_none (l := List.range q) (by simp; omega)]
    simp [hj]
theorem opsV_sound (L : List Oper) (n : Nat) (σ : AS) (K : AS → Prop) (h : opsV P L (L.drop n) σ K) : ∃ σ', ASteps P L (List.range' n (L.length - n)) σ σ' ∧ K σ' :=
  opsV_soundL L _ _ (idx_range' L n) σ K h

theorem vc_sound (hm : P.follows .mixedOrders = true) {fn : FnE} : ∀ (n : Nat) (todo : List Item) (σ : AS) (r : AV), vc P fn n todo σ r → GoA P fn todo σ r
  | 0, _, _, _, h => h
  | n + 1, [], _, _, h => GoA.done h
  | n + 1, x :: k, σ, r, h => by
    have ih := vc_sound hm (fn := fn) n
    cases x <;> simp only [vc] at h
    case code c =>
      cases c <;> simp only at h
      case skip => exact (ih _ _ _ h).step (fun ho => by simp only [okTodo, List.all_cons, Bool.and_eq_true] at ho ⊢; exact ho.2) (fun _ _ _ _ => step_skip)
      case label => exact (ih _ _ _ h).step (fun ho => by simp only [okTodo, List.all_cons, Bool.and_eq_true] at ho ⊢; exact ho.2) (fun _ _ _ _ => step_label)
      case region id ops draw =>
        cases hx : fn.ex.contains id with
        | true => rw [if_pos hx] at h; exact h
        | false =>
        rw [if_neg (by rw [hx]; decide)] at h
        have h' : opsV P ops.toList (ops.toList.drop 0) σ (fun σ' => vc P fn n k σ' r) := h
        obtain ⟨σ', h1, h2⟩ := opsV_sound ops.toList 0 σ _ h'
        refine GoA.region hx hm (σ' := σ') ?_ (ih _ _ _ h2)
        rw [List.range_eq_range']
        simpa using h1
      case seq a b => exact (ih _ _ _ h).step (fun ho => by simp only [okTodo, List.all_cons, Bool.and_eq_true, okItem, okCode] at ho ⊢; exact ⟨ho.1.1, ho.1.2, ho.2⟩) (fun _ _ _ _ => step_seq)
      case cond c x y =>
        cases hc : σ.ev c <;> simp only [hc, boolV] at h
        rename_i t
        refine GoA.cond hc ?_
        cases t
        · exact ih _ _ _ (h.2 rfl)
        · exact ih _ _ _ (h.1 rfl)
      case block id body => exact (ih _ _ _ h).step (fun ho => by simp only [okTodo, List.all_cons, Bool.and_eq_true, okItem, okCode] at ho ⊢; exact ⟨ho.1, trivial, ho.2⟩) (fun _ _ _ _ => step_block)
      case loop body => exact GoA.loop h
      case exit id =>
        cases he : exitTo id k with
        | none => simp [he, bindV] at h
        | some k' =>
          simp only [he, bindV] at h
          exact (ih _ _ _ h).step (fun ho => by simp only [okTodo, List.all_cons, Bool.and_eq_true] at ho; exact ok_exitTo ho.2 he) (fun _ _ _ _ => step_exit he)
      case scope body => exact (ih _ _ _ h).step (fun ho => by simp only [okTodo, List.all_cons, Bool.and_eq_true, okItem, okCode] at ho ⊢; exact ⟨ho.1, ho.1, ho.2⟩) (fun b a cs w => step_lone_go (by simp [stepG, stepG.exec, Frame.at]))
      case goto l =>
        cases he : gotoIn l k with
        | none => simp [he, bindV] at h
        | some k' =>
          simp only [he, bindV] at h
          exact GoA.step h (fun ho => by simp only [okTodo, List.all_cons, Bool.and_eq_true] at ho; exact ok_gotoIn ho.2 he) (fun _ _ _ _ => step_goto he)
      case ret => exact GoA.ret h
    case inBlock id => exact (ih _ _ _ h).step (fun ho => by simp only [okTodo, List.all_cons, Bool.and_eq_true] at ho ⊢; exact ho.2) (fun _ _ _ _ => step_inBlock)
    case inLoop body => exact h
    case inScope body => exact (ih _ _ _ h).step (fun ho => by simp only [okTodo, List.all_cons, Bool.and_eq_true] at ho ⊢; exact ho.2) (fun b a cs w => step_lone_go (by simp [stepG, stepG.exec, Frame.at]))

theorem go_region2 {fn : FnE} {id : Nat} {L : List Oper} {k : List Item} {σ : AS} {r : AV} (dyn : List (Tmp × Tmp)) (hm : P.follows .mixedOrders = true) (hok : regionOk2 fn.fn.ntmps L.toArray none dyn = true)
    (h : opsV P L L σ fun σ' => dynOk dyn σ'.tm ∧ GoA P fn k σ' r) : GoA P fn (.code (.region id L.toArray true) :: k) σ r := by
  obtain ⟨σ', h1, h2, h3⟩ := opsV_sound L 0 σ _ h
  refine GoA.region2 hm hok (σ' := σ') ?_ h2 h3
  rw [List.range_eq_range']
  simpa using h1
theorem go_region3 {fn : FnE} {id : Nat} {L : List Oper} {k : List Item} {σ : AS} {r : AV} (q : Nat) {o o' : Oper} {os2 : List Oper} (hm : P.follows .mixedOrders = true) (hok : regionOk2 fn.fn.ntmps L.toArray (some q) [] = true)
    (hla : lastOk L.toArray q = true) (hL : L.drop q = o :: o' :: os2)
    (h : opsV P L (L.take q) σ fun σ0 => opsV P L (o :: o' :: os2) σ0 (fun σ' => GoA P fn k σ' r) ∧ opsV P L (o' :: o :: os2) σ0 (fun σ' => GoA P fn k σ' r)) : GoA P fn (.code (.region id L.toArray true) :: k) σ r := by
  have hlen : q + 1 < L.length := by
    have := congrArg List.length hL
    simp at this
    omega
  have g0 : L[q]? = some o := by
    have := congrArg (fun l : List Oper => l[0]?) hL
    simpa using this
  have g1 : L[q + 1]? = some o' := by
    have := congrArg (fun l : List Oper => l[1]?) hL
    simpa using this
  have g2 : (List.range' (q + 2) (L.length - q - 2)).map (fun i => L[i]?) = os2.map some := by
    have := idx_range' L (q + 2)
    rw [show L.length - (q + 2) = L.length - q - 2 by omega] at this
    rw [this]
    congr 1
    rw [show q + 2 = q + 2 from rfl, ← List.drop_drop, hL]
    rfl
  obtain ⟨σ0, h0, ha, hb⟩ := opsV_soundL L _ _ (idx_range L (by omega : q ≤ L.length)) σ _ h
  obtain ⟨σ1, h1, k1⟩ := opsV_soundL L (q :: (q + 1) :: List.range' (q + 2) (L.length - q - 2)) _ (by simp only [List.map_cons, g0, g1, g2]) σ0 _ ha
  obtain ⟨σ2, h2, k2⟩ := opsV_soundL L ((q + 1) :: q :: List.range' (q + 2) (L.length - q - 2)) _ (by simp only [List.map_cons, g0, g1, g2]) σ0 _ hb
  exact GoA.region3 hm hok hla h0 (by simpa using h1) (by simpa using h2) k1 k2
end Go.Am
