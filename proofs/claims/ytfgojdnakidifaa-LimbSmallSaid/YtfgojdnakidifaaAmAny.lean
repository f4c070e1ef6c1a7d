/-
  'Am', part 16: the region's rule.
-/
import Derived.Test.YtfgojdnakidifaaAmInd
set_option linter.unusedSimpArgs false
set_option linter.unusedVariables false
namespace Go.Am
variable {P : Program} {X : Ctx}

/-! ### What must stand ahead of what -/
theorem testBit_fold (b : Edge → Bool) (g : Edge → Nat) (j : Nat) : ∀ (l : List Edge) (s : Nat),
    (l.foldl (fun s e => if b e then s ||| 2 ^ e.on ||| g e else s) s).testBit j = (s.testBit j || l.any fun e => b e && (e.on == j || (g e).testBit j))
  | [], s => by simp
  | e :: l, s => by
    rw [List.foldl_cons, testBit_fold b g j l]
    cases hb : b e
    · simp [hb]
    · simp only [hb, if_true, Nat.testBit_or, Nat.testBit_two_pow, List.any_cons, Bool.true_and]
      have : decide (e.on = j) = (e.on == j) := by rw [Bool.eq_iff_iff]; simp
      rw [this]
      simp only [Bool.or_assoc]

def oneB (acc : Array Nat) (o : Oper) : Nat := o.after.toList.foldl (fun s e => if Region.binds .any e then s ||| 2 ^ e.on ||| acc.getD e.on 0 else s) 0
def beforeL (l : List Oper) (acc : Array Nat) : Array Nat := l.foldl (fun acc o => acc.push (oneB acc o)) acc

theorem beforeL_size : ∀ (l : List Oper) (acc : Array Nat), (beforeL l acc).size = acc.size + l.length
  | [], acc => by simp [beforeL]
  | o :: l, acc => by
    have := beforeL_size l (acc.push (oneB acc o))
    simp only [beforeL, List.foldl_cons, Array.size_push, List.length_cons] at this ⊢
    omega
theorem beforeL_old : ∀ (l : List Oper) (acc : Array Nat) (k : Nat), k < acc.size → (beforeL l acc).getD k 0 = acc.getD k 0
  | [], acc, k, _ => rfl
  | o :: l, acc, k, hk => by
    have := beforeL_old l (acc.push (oneB acc o)) k (by simp; omega)
    simp only [beforeL, List.foldl_cons] at this ⊢
    rw [this]
    simp only [Array.getD_eq_getD_getElem?]
    rw [Array.getElem?_push, if_neg (by omega)]
theorem beforeL_new : ∀ (l : List Oper) (acc : Array Nat) (k : Nat) (o : Oper), l[k]? = some o →
    ∃ acc', (∀ q, q < acc.size + k → acc'.getD q 0 = (beforeL l acc).getD q 0) ∧ (beforeL l acc).getD (acc.size + k) 0 = oneB acc' o
  | [], _, k, o, h => by simp at h
  | o :: l, acc, 0, o', h => by
    simp at h; subst h
    refine ⟨acc, fun q hq => (beforeL_old (o :: l) acc q (by omega)).symm, ?_⟩
    have := beforeL_old l (acc.push (oneB acc o)) acc.size (by simp)
    simp only [beforeL, List.foldl_cons, Nat.add_zero] at this ⊢
    rw [this]
    simp [Array.getD_eq_getD_getElem?]
  | o :: l, acc, k + 1, o', h => by
    obtain ⟨acc', h1, h2⟩ := beforeL_new l (acc.push (oneB acc o)) k o' (by simpa using h)
    refine ⟨acc', fun q hq => ?_, ?_⟩
    · have := h1 q (by simp; omega)
      simpa [beforeL] using this
    · have e : acc.size + (k + 1) = (acc.push (oneB acc o)).size + k := by simp; omega
      rw [e]
      simpa [beforeL] using h2

/-- j stands ahead of i. -/
def anc (b : Array Nat) (i j : Nat) : Bool := (b.getD i 0).testBit j

/-- A store that may go ahead of a load, if the pointers differ: the load's pointer is written ahead of it, the store's by what stands ahead of the store. -/
def dynPair (ops : Array Oper) (b : Array Nat) (dyn : List (Tmp × Tmp)) (i j : Nat) : Bool :=
  match ops[i]?, ops[j]? with
  | some oi, some oj => match oi.op, oj.op with
    | .store _ (.tmp p) _, .load _ (.tmp q) => oj.apart ops oi && dyn.contains (q, p) && (List.range ops.size).all fun k => match ops[k]? with
      | some o => (o.dst != some q || decide (k < j)) && (o.dst != some p || anc b i k)
      | none => true
    | _, _ => false
  | _, _ => false

/-- The check of a region: slots in range, edges back, and what is not ordered does not touch. sw: two operations (this one and the next) that two runs look at. -/
def regionOk2 (N : Nat) (ops : Array Oper) (sw : Option Nat) (dyn : List (Tmp × Tmp)) : Bool :=
  let b := beforeL ops.toList #[]
  (List.range ops.size).all fun i => match ops[i]? with
    | some o => (match o.dst with | some d => decide (d < N) | none => true) && o.after.toList.all (fun e => !Region.binds .any e || decide (e.on < i)) &&
        (List.range i).all fun j => anc b i j || (match ops[j]? with | some oj => indep2 ops oj o | none => true) || dynPair ops b dyn i j || (sw == some j && i == j + 1)
    | none => true
def regionOk (N : Nat) (ops : Array Oper) : Bool := regionOk2 N ops none []

structure RegOk (N : Nat) (ops : Array Oper) (sw : Option Nat) (dyn : List (Tmp × Tmp)) : Prop where
  dst : ∀ (i : Nat) (o : Oper) (d : Nat), ops[i]? = some o → o.dst = some d → d < N
  back : ∀ (i : Nat) (o : Oper) (e : Edge), ops[i]? = some o → e ∈ o.after → Region.binds .any e = true → e.on < i
  pair : ∀ (i j : Nat) (oi oj : Oper), ops[i]? = some oi → ops[j]? = some oj → j < i → anc (beforeL ops.toList #[]) i j = false →
    indep2 ops oj oi = true ∨ dynPair ops (beforeL ops.toList #[]) dyn i j = true ∨ (sw = some j ∧ i = j + 1)

theorem regOk_of {N : Nat} {ops : Array Oper} {sw : Option Nat} {dyn : List (Tmp × Tmp)} (h : regionOk2 N ops sw dyn = true) : RegOk N ops sw dyn := by
  unfold regionOk2 at h
  simp only [List.all_eq_true, List.mem_range] at h
  have key : ∀ (i : Nat) (o : Oper), ops[i]? = some o → (match o.dst with | some d => decide (d < N) | none => true) = true ∧ (∀ e ∈ o.after.toList, (!Region.binds .any e || decide (e.on < i)) = true) ∧
      ∀ j, j < i → (anc (beforeL ops.toList #[]) i j || (match ops[j]? with | some oj => indep2 ops oj o | none => true) || dynPair ops (beforeL ops.toList #[]) dyn i j || (sw == some j && i == j + 1)) = true := by
    intro i o ho
    have hi := h i (Array.getElem?_eq_some_iff.1 ho).1
    simp only [ho, Bool.and_eq_true, List.all_eq_true, List.mem_range] at hi
    exact ⟨hi.1.1, hi.1.2, hi.2⟩
  refine ⟨fun i o d ho hd => ?_, fun i o e ho he hb => ?_, fun i j oi oj hi hj hlt hn => ?_⟩
  · have := (key i o ho).1
    rw [hd] at this
    simpa using this
  · have := (key i o ho).2.1 e (by simpa using he)
    simpa [hb] using this
  · have := (key i oi hi).2.2 j hlt
    rw [hn, hj] at this
    simp only [Bool.false_or, Bool.or_eq_true, Bool.and_eq_true, beq_iff_eq, or_assoc] at this
    exact this

/-- The listed operations are closed under what stands ahead. -/
def Closed (ops : Array Oper) (listed : Array Bool) : Prop :=
  ∀ (i : Nat) (o : Oper) (e : Edge), ops[i]? = some o → listed.getD i false = true → e ∈ o.after → Region.binds .any e = true → listed.getD e.on false = true

theorem anc_listed {N : Nat} {ops : Array Oper} {sw : Option Nat} {dyn : List (Tmp × Tmp)} (R : RegOk N ops sw dyn) {listed : Array Bool} (hc : Closed ops listed) : ∀ (i : Nat) (o : Oper), ops[i]? = some o →
    (∀ e ∈ o.after, Region.binds .any e = true → listed.getD e.on false = true) → ∀ j, anc (beforeL ops.toList #[]) i j = true → listed.getD j false = true := by
  intro i
  induction i using Nat.strongRecOn with
  | _ i ih =>
    intro o ho he j hj
    have ho' : ops.toList[i]? = some o := by simpa using ho
    obtain ⟨acc', h1, h2⟩ := beforeL_new ops.toList #[] i o ho'
    simp only [List.size_toArray, List.length_nil, Nat.zero_add] at h1 h2
    unfold anc at hj
    rw [h2, oneB, testBit_fold] at hj
    simp only [Nat.zero_testBit, Bool.false_or, List.any_eq_true, Bool.and_eq_true, Bool.or_eq_true, beq_iff_eq] at hj
    obtain ⟨e, hm, hb, hjj⟩ := hj
    have hm' : e ∈ o.after := by simpa using hm
    have hlt := R.back i o e ho hm' hb
    have hl := he e hm' hb
    rcases hjj with rfl | hjj
    · exact hl
    · rw [h1 e.on hlt] at hjj
      have hsz : e.on < ops.size := Nat.lt_trans hlt (Array.getElem?_eq_some_iff.1 ho).1
      have hoe : ops[e.on]? = some ops[e.on] := Array.getElem?_eq_getElem hsz
      exact ih e.on hlt _ hoe (fun e' he' hb' => hc e.on _ e' hoe hl he' hb') j hjj

theorem HRel.tidy {h : HP} {M : Mem} (H : HRel X h M) : h.tidy := by
  intro id hid
  cases hb : h.bk id with
  | none => rfl
  | some b =>
    have hD : M.D id := (H.dom id).2 (by simp [hb])
    have := H.lt id hD
    rw [H.n] at this
    omega
/-! ### Lists of steps -/
def ASteps (P : Program) (ops : List Oper) : List Nat → AS → AS → Prop
  | [], σ, σ' => σ' = σ
  | i :: l, σ, σ' => ∃ τ, AStep P ops i σ τ ∧ ASteps P ops l τ σ'

theorem asteps_keeps {ops : List Oper} {p : Tmp} : ∀ (l : List Nat) (σ σ' : AS), (∀ k ∈ l, ∀ o, ops[k]? = some o → o.dst ≠ some p) → ASteps P ops l σ σ' → σ'.tm p = σ.tm p
  | [], σ, σ', _, h => by cases h; rfl
  | k :: l, σ, σ', hd, ⟨τ, h1, h2⟩ => by
    rw [asteps_keeps l τ σ' (fun k hk => hd k (.tail _ hk)) h2]
    exact astep_keeps (hd k (.head _)) h1

/-- The pair's operation may be moved ahead: by what they are, or since the pointers differ at the end. -/
def CanPass (ops : Array Oper) (oi : Oper) (tm : Nat → AV) (rest : List Nat) (j : Nat) : Prop :=
  ∃ oj, ops[j]? = some oj ∧ (indep2 ops oj oi = true ∨ ∃ t t' q p x, oj.op = .load t (.tmp q) ∧ oi.op = .store t' (.tmp p) x ∧ oj.apart ops oi = true ∧ ptrNe (tm q) (tm p) ∧
    ∀ k ∈ rest, ∀ o, ops[k]? = some o → o.dst ≠ some q ∧ o.dst ≠ some p)
def Front (ops : Array Oper) (i : Nat) (oi : Oper) (tm : Nat → AV) (l2 : List Nat) : List Nat → Prop
  | [] => True
  | j :: l1 => CanPass ops oi tm (j :: (l1 ++ i :: l2)) j ∧ Front ops i oi tm l2 l1

theorem asteps_front {ops : Array Oper} {i : Nat} {oi : Oper} (hi : ops[i]? = some oi) : ∀ (l1 l2 : List Nat) (σ σ' : AS), σ.h.tidy → ASteps P ops.toList (l1 ++ i :: l2) σ σ' →
    Front ops i oi σ'.tm l2 l1 → ∃ τ, AStep P ops.toList i σ τ ∧ ASteps P ops.toList (l1 ++ l2) τ σ'
  | [], l2, σ, σ', _, h, _ => h
  | j :: l1, l2, σ, σ', ht, h, hf => by
    have hall := h
    obtain ⟨τ, h1, h2⟩ := h
    obtain ⟨τ2, h3, h4⟩ := asteps_front hi l1 l2 τ σ' (astep_tidy ht h1) h2 hf.2
    obtain ⟨oj, hj, hij⟩ := hf.1
    have hsw : ∃ σ1', AStep P ops.toList i σ σ1' ∧ AStep P ops.toList j σ1' τ2 := by
      rcases hij with hij | ⟨t, t', q, p, x, hoj, hoi, hap, hne, hk⟩
      · exact astep_comm2 hj hi hij ht h1 h3
      · have kq := asteps_keeps (p := q) _ _ _ (fun k hkm o ho => (hk k hkm o (by simpa using ho)).1) hall
        have kp := asteps_keeps (p := p) _ _ _ (fun k hkm o ho => (hk k hkm o (by simpa using ho)).2) hall
        rw [kq, kp] at hne
        exact astep_comm3 hj hi hap hoj hoi hne h1 h3
    obtain ⟨τ3, h5, h6⟩ := hsw
    exact ⟨τ3, h5, τ2, h6, h4⟩

def dynOk (dyn : List (Tmp × Tmp)) (tm : Nat → AV) : Prop := ∀ x ∈ dyn, ptrNe (tm x.1) (tm x.2)

theorem front_of {ops : Array Oper} {i : Nat} {oi : Oper} {tm : Nat → AV} {l2 : List Nat} : ∀ (l1 : List Nat), (l1 ++ i :: l2).Pairwise (· < ·) →
    (∀ j ∈ l1, ∃ oj, ops[j]? = some oj ∧ (indep2 ops oj oi = true ∨ ∃ t t' q p x, oj.op = .load t (.tmp q) ∧ oi.op = .store t' (.tmp p) x ∧ oj.apart ops oi = true ∧ ptrNe (tm q) (tm p) ∧
      ∀ k ∈ l1 ++ i :: l2, ∀ o, ops[k]? = some o → (o.dst = some q → k < j) ∧ o.dst ≠ some p)) → Front ops i oi tm l2 l1
  | [], _, _ => trivial
  | j :: l1, hs, h => by
    rw [List.cons_append, List.pairwise_cons] at hs
    refine ⟨?_, front_of l1 hs.2 fun j' hj' => ?_⟩
    · obtain ⟨oj, hoj, hc⟩ := h j (.head _)
      refine ⟨oj, hoj, hc.imp id ?_⟩
      rintro ⟨t, t', q, p, x, e1, e2, e3, e4, e5⟩
      refine ⟨t, t', q, p, x, e1, e2, e3, e4, fun k hk o ho => ⟨fun hq => ?_, (e5 k hk o ho).2⟩⟩
      have hlt := (e5 k hk o ho).1 hq
      cases hk with
      | head => omega
      | tail _ hk => have := hs.1 k hk; omega
    · obtain ⟨oj, hoj, hc⟩ := h j' (.tail _ hj')
      exact ⟨oj, hoj, hc.imp id fun ⟨t, t', q, p, x, e1, e2, e3, e4, e5⟩ => ⟨t, t', q, p, x, e1, e2, e3, e4, fun k hk => e5 k (.tail _ hk)⟩⟩

/-- What is still to be done, in the text's order. -/
def remOf (n : Nat) (listed : Array Bool) : List Nat := (List.range n).filter fun i => !listed.getD i true

theorem rem_split {n : Nat} {listed : Array Bool} {i : Nat} (hi : i < n) (hu : listed.getD i true = false) :
    ∃ l1 l2, remOf n listed = l1 ++ i :: l2 ∧ remOf n (listed.setIfInBounds i true) = l1 ++ l2 ∧ (∀ j ∈ l1, j < i ∧ j < n ∧ listed.getD j true = false) ∧ l1 = (List.range i).filter (fun j => !listed.getD j true) := by
  have hr : List.range n = List.range i ++ i :: (List.range' (i + 1) (n - i - 1)) := by
    rw [List.range_eq_range', List.range_eq_range', show n = i + (1 + (n - i - 1)) by omega, ← List.range'_append_1, ← List.range'_append_1]
    simp
  have hsz : i < listed.size := by
    rcases Nat.lt_or_ge i listed.size with h | h
    · exact h
    · simp [Array.getD_eq_getD_getElem?, Array.getElem?_eq_none h] at hu
  have hset : ∀ j, j ≠ i → (listed.setIfInBounds i true).getD j true = listed.getD j true := fun j hj => by
    simp [Array.getD_eq_getD_getElem?, Array.getElem?_setIfInBounds_ne (Ne.symm hj)]
  have hsi : (listed.setIfInBounds i true).getD i true = true := by simp [Array.getD_eq_getD_getElem?, hsz]
  refine ⟨(List.range i).filter (fun j => !listed.getD j true), (List.range' (i + 1) (n - i - 1)).filter (fun j => !listed.getD j true), ?_, ?_, ?_, rfl⟩
  · unfold remOf
    rw [hr, List.filter_append, List.filter_cons, if_pos (by simp [hu])]
  · unfold remOf
    rw [hr, List.filter_append, List.filter_cons, if_neg (by simp [hsi])]
    congr 1
    · refine List.filter_congr fun j hj => ?_
      rw [hset j (by have := List.mem_range.1 hj; omega)]
    · refine List.filter_congr fun j hj => ?_
      rw [hset j (by have := List.mem_range'_1.1 hj; omega)]
  · intro j hj
    have := List.mem_filter.1 hj
    have h1 := List.mem_range.1 this.1
    exact ⟨h1, by omega, by simpa using this.2⟩

theorem getD_set_mono (l : Array Bool) (i b : Nat) (h : l.getD b true = true) : (l.setIfInBounds i true).getD b true = true := by
  by_cases hb : b = i
  · subst hb
    by_cases hs : b < l.size
    · simp [Array.getD_eq_getD_getElem?, hs]
    · simp [Array.getD_eq_getD_getElem?, hs]
  · simp only [Array.getD_eq_getD_getElem?, Array.getElem?_setIfInBounds_ne (Ne.symm hb)] at h ⊢
    exact h
theorem ready_rem {ops : Array Oper} : ∀ (listed : Array Bool) (i : Nat), i ∈ Region.ready .any ops listed → i < ops.size ∧ listed.getD i true = false := by
  intro listed i hi
  have := mem_ready.1 hi
  obtain ⟨h0, o, ho, _⟩ := this
  exact ⟨(Array.getElem?_eq_some_iff.1 ho).1, h0⟩
theorem nil_rem {N : Nat} {ops : Array Oper} {sw : Option Nat} {dyn : List (Tmp × Tmp)} (R : RegOk N ops sw dyn) : ∀ (listed : Array Bool), Region.ready .any ops listed = [] → remOf ops.size listed = [] := by
  intro listed hr
  rcases hrem : remOf ops.size listed with _ | ⟨i, l⟩
  · rfl
  · exfalso
    have hi : i ∈ remOf ops.size listed := by rw [hrem]; exact .head _
    have h1 := List.mem_filter.1 hi
    have hlt := List.mem_range.1 h1.1
    have hiu : listed.getD i true = false := by simpa using h1.2
    have : i ∈ Region.ready .any ops listed := by
      refine mem_ready.2 ⟨hiu, ops[i], Array.getElem?_eq_getElem hlt, fun e he hb => ?_⟩
      have hlt2 := R.back i _ e (Array.getElem?_eq_getElem hlt) he hb
      cases hle : listed.getD e.on false with
      | true => rfl
      | false =>
        exfalso
        obtain ⟨l1, l2, q1, q2, q3, q4⟩ := rem_split hlt hiu
        -- e.on is unlisted, less than i: it stands ahead of i in the list
        have hsz : e.on < listed.size := by
          have : i < listed.size := by
            rcases Nat.lt_or_ge i listed.size with h | h
            · exact h
            · simp [Array.getD_eq_getD_getElem?, Array.getElem?_eq_none h] at hiu
          omega
        have heu : listed.getD e.on true = false := by
          simp [Array.getD_eq_getD_getElem?, hsz] at hle ⊢
          exact hle
        have hmem : e.on ∈ remOf ops.size listed := List.mem_filter.2 ⟨List.mem_range.2 (by omega), by simp [heu]⟩
        have hsorted : (remOf ops.size listed).Pairwise (· < ·) := List.Pairwise.filter _ List.pairwise_lt_range
        rw [hrem] at hmem hsorted
        cases hmem with
        | head => omega
        | tail _ h => have := List.rel_of_pairwise_cons hsorted h; omega
    rw [hr] at this
    cases this
theorem any_sound {N : Nat} {ops : Array Oper} {sw : Option Nat} {dyn : List (Tmp × Tmp)} (R : RegOk N ops sw dyn) {Q : Exit → Act → World → Prop} {O : Nat → Prop} : ∀ (fuel : Nat) (listed : Array Bool) (σ σ' : AS) (M : Mem) (a : Act),
    (remOf ops.size listed).length ≤ fuel → Closed ops listed → (∀ a, sw = some a → listed.getD a true = true ∨ listed.getD (a + 1) true = true) → dynOk dyn σ'.tm → ASteps P ops.toList (remOf ops.size listed) σ σ' → Rel N X σ M a → M.O = O → (∀ M' a', Rel N X σ' M' a' → M'.O = O → Q .normal a' M'.w) →
      wpAny P .any ops Q fuel listed a M.w := by
  have ready_rem := @ready_rem ops
  have nil_rem := nil_rem R
  intro fuel
  induction fuel with
  | zero =>
    intro listed σ σ' M a hf hc hsw hdy hs hR hO hQ
    have hrem : remOf ops.size listed = [] := List.eq_nil_of_length_eq_zero (by omega)
    refine ⟨?_, ?_⟩
    · rcases hready : Region.ready .any ops listed with _ | ⟨i, l⟩
      · rfl
      · exfalso
        obtain ⟨h1, h2⟩ := ready_rem listed i (by rw [hready]; exact .head _)
        have : i ∈ remOf ops.size listed := List.mem_filter.2 ⟨List.mem_range.2 h1, by simp [h2]⟩
        rw [hrem] at this; cases this
    · rw [hrem] at hs
      cases hs
      exact hQ M a hR hO
  | succ fuel ih =>
    intro listed σ σ' M a hf hc hsw hdy hs hR hO hQ
    refine ⟨fun hr => ?_, fun i hi => ?_⟩
    · rw [nil_rem listed hr] at hs
      cases hs
      exact hQ M a hR hO
    · obtain ⟨hlt, hiu⟩ := ready_rem listed i hi
      obtain ⟨l1, l2, q1, q2, q3, q4⟩ := rem_split hlt hiu
      obtain ⟨_, oi, hoi, hall⟩ := mem_ready.1 hi
      rw [q1] at hs
      have unl : ∀ k, k ∈ l1 ++ i :: l2 → listed.getD k true = false := fun k hk => by
        rw [← q1] at hk
        simpa using (List.mem_filter.1 hk).2
      have hanc : ∀ j, listed.getD j true = false → anc (beforeL ops.toList #[]) i j = false := by
        intro j hju
        cases hanc : anc (beforeL ops.toList #[]) i j with
        | false => rfl
        | true =>
          exfalso
          have := anc_listed R hc i oi hoi hall j hanc
          have hsz : j < listed.size := by
            rcases Nat.lt_or_ge j listed.size with h | h
            · exact h
            · simp [Array.getD_eq_getD_getElem?, Array.getElem?_eq_none h] at hju
          simp [Array.getD_eq_getD_getElem?, hsz] at this hju
          rw [this] at hju; cases hju
      have hfront : Front ops i oi σ'.tm l2 l1 := by
        refine front_of l1 (q1 ▸ List.Pairwise.filter _ List.pairwise_lt_range) fun j hj => ?_
        obtain ⟨hji, hjn, hju⟩ := q3 j hj
        refine ⟨ops[j], Array.getElem?_eq_getElem hjn, ?_⟩
        rcases R.pair i j oi _ hoi (Array.getElem?_eq_getElem hjn) hji (hanc j hju) with h | h | ⟨h, hij⟩
        · exact .inl h
        · refine .inr ?_
          unfold dynPair at h
          rw [hoi, Array.getElem?_eq_getElem hjn] at h
          simp only at h
          split at h
          · rename_i t' p x t q hop hop2
            simp only [Bool.and_eq_true, List.all_eq_true, List.mem_range] at h
            obtain ⟨⟨h1, h2⟩, h3⟩ := h
            refine ⟨t, t', q, p, x, hop2, hop, h1, hdy (q, p) (by simpa using h2), fun k hk o ho => ?_⟩
            have hkn := (Array.getElem?_eq_some_iff.1 ho).1
            have h4 := h3 k hkn
            rw [ho] at h4
            simp only [Bool.and_eq_true, Bool.or_eq_true, bne_iff_ne, ne_eq, decide_eq_true_eq] at h4
            refine ⟨fun hq => h4.1.resolve_left fun hn => hn hq, fun hp => ?_⟩
            have := h4.2.resolve_left fun hn => hn hp
            rw [hanc k (unl k hk)] at this
            cases this
          · cases h
        · exfalso
          rcases hsw j h with h5 | h5
          · rw [hju] at h5; cases h5
          · rw [← hij, hiu] at h5; cases h5
      obtain ⟨τ, h1, h2⟩ := asteps_front hoi l1 l2 σ σ' hR.heap.tidy hs hfront
      refine astep_sound hR h1 (fun o d ho hd => R.dst i o d ho hd) fun M' a' hR' hO' => ?_
      refine ih (listed.setIfInBounds i true) τ σ' M' a' ?_ ?_ (fun b hb => (hsw b hb).imp (getD_set_mono _ _ _) (getD_set_mono _ _ _)) hdy (q2 ▸ h2) hR' (hO'.trans hO) hQ
      · rw [q2]
        rw [q1] at hf
        simp at hf ⊢
        omega
      · intro k o e ho hk he hb
        by_cases hki : k = i
        · subst hki
          rw [hoi] at ho; cases ho
          exact getD_set_true (hall e he hb)
        · have : listed.getD k false = true := by
            rwa [getD_set_ne false (Ne.symm hki)] at hk
          exact getD_set_true (hc k o e ho this he hb)

theorem remOf_all (n : Nat) : remOf n (Array.replicate n false) = List.range n := by
  unfold remOf
  refine List.filter_eq_self.2 fun i hi => ?_
  have := List.mem_range.1 hi
  simp [Array.getD_eq_getD_getElem?, this]

def dstOk (N : Nat) (ops : Array Oper) : Bool := ops.toList.all fun o => match o.dst with | some d => decide (d < N) | none => true
theorem dstOk_spec {N : Nat} {ops : Array Oper} (h : dstOk N ops = true) (i : Nat) (o : Oper) (d : Nat) (ho : ops[i]? = some o) (hd : o.dst = some d) : d < N := by
  have hm : o ∈ ops.toList := List.mem_of_getElem? (by simpa using ho)
  have := List.all_eq_true.1 h o hm
  rw [hd] at this
  simpa using this
def regOkD (N : Nat) (ops : Array Oper) (draw : Bool) : Bool := if draw then regionOk N ops else dstOk N ops

/-- The region's rule, whether its order is drawn or not. -/
theorem region_sound {N : Nat} {ops : Array Oper} {draw : Bool} {id : Nat} (hm : P.follows .mixedOrders = true) (hok : regOkD N ops draw = true) {Q : Exit → Act → World → Prop} {σ σ' : AS} {M : Mem} {a : Act}
    (hs : ASteps P ops.toList (List.range ops.size) σ σ') (hR : Rel N X σ M a) (hQ : ∀ M' a', Rel N X σ' M' a' → M'.O = M.O → Q .normal a' M'.w) : (Code.region id ops draw).wp P Q a M.w := by
  cases draw with
  | true =>
    have R := regOk_of hok
    refine wp_region_any hm ?_
    have hE := hR.heap.ext (Ext.drawn M.w (M.w.drawn + 1))
    have hR2 : Rel N X σ { M with w := { M.w with drawn := M.w.drawn + 1 } } a := ⟨hE.2, hR.size, hR.defers, fun t => VRel.mono hE.1 _ _ (hR.tm t)⟩
    refine any_sound R (O := M.O) ops.size _ σ σ' { M with w := { M.w with drawn := M.w.drawn + 1 } } a ?_ ?_ (fun _ h => by cases h) (fun _ h => by cases h) ?_ hR2 rfl hQ
    · rw [remOf_all]; simp
    · intro i o e ho hl
      have := (Array.getElem?_eq_some_iff.1 ho).1
      simp [Array.getD_eq_getD_getElem?, this] at hl
    · rw [remOf_all]; exact hs
  | false =>
    have hd := dstOk_spec hok
    refine wp_region ?_
    have key : ∀ (l : List Nat) (σ : AS) (M : Mem) (a : Act) (O : Nat → Prop), ASteps P ops.toList l σ σ' → Rel N X σ M a → M.O = O → (∀ M' a', Rel N X σ' M' a' → M'.O = O → Q .normal a' M'.w) → wpOps P ops Q l a M.w := by
      intro l
      induction l with
      | nil => intro σ M a O h hR hO hQ; cases h; exact hQ M a hR hO
      | cons i l ih =>
        intro σ M a O h hR hO hQ
        obtain ⟨τ, h1, h2⟩ := h
        rw [wpOps_cons]
        exact astep_sound hR h1 (fun o d ho hdd => hd i o d ho hdd) fun M' a' hR' hO' => ih τ M' a' O h2 hR' (hO'.trans hO) hQ
    exact key _ σ M a M.O hs hR rfl hQ

theorem region_sound2 {N : Nat} {ops : Array Oper} {dyn : List (Tmp × Tmp)} {id : Nat} (hm : P.follows .mixedOrders = true) (hok : regionOk2 N ops none dyn = true) {Q : Exit → Act → World → Prop} {σ σ' : AS} {M : Mem} {a : Act}
    (hs : ASteps P ops.toList (List.range ops.size) σ σ') (hd : dynOk dyn σ'.tm) (hR : Rel N X σ M a) (hQ : ∀ M' a', Rel N X σ' M' a' → M'.O = M.O → Q .normal a' M'.w) : (Code.region id ops true).wp P Q a M.w := by
  have R := regOk_of hok
  refine wp_region_any hm ?_
  have hE := hR.heap.ext (Ext.drawn M.w (M.w.drawn + 1))
  have hR2 : Rel N X σ { M with w := { M.w with drawn := M.w.drawn + 1 } } a := ⟨hE.2, hR.size, hR.defers, fun t => VRel.mono hE.1 _ _ (hR.tm t)⟩
  refine any_sound R (O := M.O) ops.size _ σ σ' { M with w := { M.w with drawn := M.w.drawn + 1 } } a ?_ ?_ (fun _ h => by cases h) hd ?_ hR2 rfl hQ
  · rw [remOf_all]; simp
  · intro i o e ho hl
    have := (Array.getElem?_eq_some_iff.1 ho).1
    simp [Array.getD_eq_getD_getElem?, this] at hl
  · rw [remOf_all]; exact hs

/-! ### Two runs: an operation and the next one, in both orders -/
theorem front_indep {ops : Array Oper} {i : Nat} {oi : Oper} {tm : Nat → AV} {l2 : List Nat} : ∀ (l1 : List Nat), (∀ j ∈ l1, ∃ oj, ops[j]? = some oj ∧ indep2 ops oj oi = true) → Front ops i oi tm l2 l1
  | [], _ => trivial
  | j :: l1, h => ⟨let ⟨oj, h1, h2⟩ := h j (.head _); ⟨oj, h1, .inl h2⟩, front_indep l1 fun k hk => h k (.tail _ hk)⟩
theorem asteps_append {ops : List Oper} : ∀ (l1 l2 : List Nat) (σ σ0 σ' : AS), ASteps P ops l1 σ σ0 → ASteps P ops l2 σ0 σ' → ASteps P ops (l1 ++ l2) σ σ'
  | [], _, _, _, _, h1, h2 => by cases h1; exact h2
  | _ :: l1, l2, _, _, _, ⟨τ, h1, h2⟩, h3 => ⟨τ, h1, asteps_append l1 l2 _ _ _ h2 h3⟩
def remHi (n a : Nat) (listed : Array Bool) : List Nat := (List.range' (a + 2) (n - a - 2)).filter fun i => !listed.getD i true
theorem rem_mid {n a : Nat} {listed : Array Bool} (han : a + 1 < n) (hla : listed.getD a true = false) (hlb : listed.getD (a + 1) true = false) : remOf n listed = remOf a listed ++ a :: (a + 1) :: remHi n a listed := by
  have hr : List.range n = List.range a ++ a :: (a + 1) :: List.range' (a + 2) (n - a - 2) := by
    rw [List.range_eq_range', List.range_eq_range', show n = a + (1 + (1 + (n - a - 2))) by omega, ← List.range'_append_1, ← List.range'_append_1, ← List.range'_append_1]
    simp
    omega
  unfold remOf remHi
  rw [hr, List.filter_append, List.filter_cons, List.filter_cons, hla, hlb]
  rfl
theorem remHi_set {n a i : Nat} {listed : Array Bool} (hi : i < a) : remHi n a (listed.setIfInBounds i true) = remHi n a listed := by
  refine List.filter_congr fun j hj => ?_
  have := List.mem_range'_1.1 hj
  rw [getD_set_ne true (by omega)]

theorem any_sound2 {N : Nat} {ops : Array Oper} {a : Nat} (R : RegOk N ops (some a) []) (han : a + 1 < ops.size)
    (hlast : ∀ i, a + 1 < i → i < ops.size → anc (beforeL ops.toList #[]) i a = true ∨ anc (beforeL ops.toList #[]) i (a + 1) = true) {Q : Exit → Act → World → Prop} {O : Nat → Prop} :
    ∀ (fuel : Nat) (listed : Array Bool) (σ σ0 σ1 σ2 : AS) (M : Mem) (act : Act),
    (remOf ops.size listed).length ≤ fuel → Closed ops listed → listed.getD a true = false → listed.getD (a + 1) true = false →
      ASteps P ops.toList (remOf a listed) σ σ0 → ASteps P ops.toList (a :: (a + 1) :: remHi ops.size a listed) σ0 σ1 → ASteps P ops.toList ((a + 1) :: a :: remHi ops.size a listed) σ0 σ2 → Rel N X σ M act → M.O = O →
      (∀ M' a', Rel N X σ1 M' a' → M'.O = O → Q .normal a' M'.w) → (∀ M' a', Rel N X σ2 M' a' → M'.O = O → Q .normal a' M'.w) →
      wpAny P .any ops Q fuel listed act M.w := by
  have ready_rem := @ready_rem ops
  have nil_rem := nil_rem R
  have mem : ∀ (listed : Array Bool), listed.getD a true = false → a ∈ remOf ops.size listed := fun listed h => List.mem_filter.2 ⟨List.mem_range.2 (by omega), by simp only [h, Bool.not_false]⟩
  intro fuel
  induction fuel with
  | zero =>
    intro listed σ σ0 σ1 σ2 M act hf hc hla
    have hrem : remOf ops.size listed = [] := List.eq_nil_of_length_eq_zero (by omega)
    have := mem listed hla
    rw [hrem] at this; cases this
  | succ fuel ih =>
    intro listed σ σ0 σ1 σ2 M act hf hc hla hlb hs0 hs1 hs2 hR hO hQ1 hQ2
    refine ⟨fun hr => ?_, fun i hi => ?_⟩
    · have := mem listed hla
      rw [nil_rem listed hr] at this; cases this
    · obtain ⟨hlt, hiu⟩ := ready_rem listed i hi
      obtain ⟨l1, l2, q1, q2, q3, q4⟩ := rem_split hlt hiu
      obtain ⟨_, oi, hoi, hall⟩ := mem_ready.1 hi
      have hmid := rem_mid han hla hlb
      have hanc : ∀ j, listed.getD j true = false → anc (beforeL ops.toList #[]) i j = false := by
        intro j hju
        cases hanc : anc (beforeL ops.toList #[]) i j with
        | false => rfl
        | true =>
          exfalso
          have := anc_listed R hc i oi hoi hall j hanc
          have hsz : j < listed.size := by
            rcases Nat.lt_or_ge j listed.size with h | h
            · exact h
            · simp [Array.getD_eq_getD_getElem?, Array.getElem?_eq_none h] at hju
          simp [Array.getD_eq_getD_getElem?, hsz] at this hju
          rw [this] at hju; cases hju
      have hind : ∀ j, j < i → listed.getD j true = false → ¬ (j = a ∧ i = a + 1) → ∃ oj, ops[j]? = some oj ∧ indep2 ops oj oi = true := by
        intro j hji hju hne
        have hjn : j < ops.size := by omega
        refine ⟨ops[j], Array.getElem?_eq_getElem hjn, ?_⟩
        rcases R.pair i j oi _ hoi (Array.getElem?_eq_getElem hjn) hji (hanc j hju) with h | h | ⟨h, hij⟩
        · exact h
        · unfold dynPair at h
          split at h
          · split at h
            · simp at h
            · cases h
          · cases h
        · cases h; exact (hne ⟨rfl, hij⟩).elim
      have hf' : (l1 ++ l2).length ≤ fuel := by
        rw [q1] at hf
        simp at hf ⊢
        omega
      have hc' : Closed ops (listed.setIfInBounds i true) := by
        intro k o e ho hk he hb
        by_cases hki : k = i
        · subst hki
          rw [hoi] at ho; cases ho
          exact getD_set_true (hall e he hb)
        · have : listed.getD k false = true := by
            rwa [getD_set_ne false (Ne.symm hki)] at hk
          exact getD_set_true (hc k o e ho this he hb)
      have hset : ∀ k, k = i → (listed.setIfInBounds i true).getD k true = true := by
        intro k hki
        subst hki
        by_cases hs : k < listed.size
        · simp [Array.getD_eq_getD_getElem?, hs]
        · simp [Array.getD_eq_getD_getElem?, hs]
      have hlow : ∀ j ∈ remOf a listed, j < a ∧ listed.getD j true = false := fun j hj => by
        have := List.mem_filter.1 hj
        exact ⟨List.mem_range.1 this.1, by simpa using this.2⟩
      rcases Nat.lt_trichotomy i a with hia | hia | hia
      · obtain ⟨u1, u2, p1, p2, p3, p4⟩ := rem_split (n := a) hia hiu
        rw [p1] at hs0
        have hfr := front_indep (tm := σ0.tm) (i := i) (l2 := u2) u1 fun j hj => hind j (p3 j hj).1 (p3 j hj).2.2 (by omega)
        obtain ⟨τ, h1, h2⟩ := asteps_front hoi u1 u2 σ σ0 hR.heap.tidy hs0 hfr
        refine astep_sound hR h1 (fun o d ho hd => R.dst i o d ho hd) fun M' a' hR' hO' => ?_
        refine ih _ τ σ0 σ1 σ2 M' a' (q2 ▸ hf') hc' ?_ ?_ (p2 ▸ h2) ?_ ?_ hR' (hO'.trans hO) hQ1 hQ2
        · rw [getD_set_ne true (by omega)]; exact hla
        · rw [getD_set_ne true (by omega)]; exact hlb
        · rw [remHi_set hia]; exact hs1
        · rw [remHi_set hia]; exact hs2
      · subst hia
        have hl1 : l1 = remOf i listed := q4
        have hl2 : l2 = (i + 1) :: remHi ops.size i listed := by
          rw [hmid, hl1] at q1
          have := List.append_cancel_left q1
          simpa using this.symm
        have hrun := asteps_append _ _ _ _ _ hs0 hs1
        have hfr := front_indep (tm := σ1.tm) (i := i) (l2 := (i + 1) :: remHi ops.size i listed) (remOf i listed) fun j hj => hind j (hlow j hj).1 (hlow j hj).2 (by omega)
        obtain ⟨τ, h1, h2⟩ := asteps_front hoi _ _ σ σ1 hR.heap.tidy hrun hfr
        refine astep_sound hR h1 (fun o d ho hd => R.dst i o d ho hd) fun M' a' hR' hO' => ?_
        exact any_sound R fuel _ τ σ1 M' a' (q2 ▸ hf') hc' (fun b hb => by cases hb; exact .inl (hset _ rfl)) (fun _ h => by cases h) (by rw [q2, hl1, hl2]; exact h2) hR' (hO'.trans hO) hQ1
      · by_cases hib : i = a + 1
        · have hl1 : l1 = remOf a listed ++ [a] := by
            rw [q4, hib, List.range_succ, List.filter_append]
            unfold remOf
            congr 1
            rw [List.filter_cons, hla]
            rfl
          have hl2 : l2 = remHi ops.size a listed := by
            rw [hmid, hl1, hib, List.append_assoc] at q1
            have := List.append_cancel_left q1
            simpa using this.symm
          have hrun := asteps_append _ _ _ _ _ hs0 hs2
          rw [← hib] at hrun
          have hfr := front_indep (tm := σ2.tm) (i := i) (l2 := a :: remHi ops.size a listed) (remOf a listed) fun j hj => hind j (by have := hlow j hj; omega) (hlow j hj).2 (by have := hlow j hj; omega)
          obtain ⟨τ, h1, h2⟩ := asteps_front hoi _ _ σ σ2 hR.heap.tidy hrun hfr
          refine astep_sound hR h1 (fun o d ho hd => R.dst i o d ho hd) fun M' a' hR' hO' => ?_
          exact any_sound R fuel _ τ σ2 M' a' (q2 ▸ hf') hc' (fun b hb => by cases hb; exact .inr (hset _ hib.symm)) (fun _ h => by cases h) (by rw [q2, hl1, hl2]; simpa using h2) hR' (hO'.trans hO) hQ2
        · exfalso
          rcases hlast i (by omega) hlt with h | h
          · rw [hanc a hla] at h; cases h
          · rw [hanc (a + 1) hlb] at h; cases h

/-- The static part: behind the two all hangs on one of them. -/
def lastOk (ops : Array Oper) (a : Nat) : Bool := decide (a + 1 < ops.size) && (List.range ops.size).all fun i => decide (i ≤ a + 1) || anc (beforeL ops.toList #[]) i a || anc (beforeL ops.toList #[]) i (a + 1)

theorem region_sound3 {N : Nat} {ops : Array Oper} {a : Nat} {id : Nat} (hm : P.follows .mixedOrders = true) (hok : regionOk2 N ops (some a) [] = true) (hla : lastOk ops a = true) {Q : Exit → Act → World → Prop} {σ σ0 σ1 σ2 : AS} {M : Mem} {act : Act}
    (hs0 : ASteps P ops.toList (List.range a) σ σ0) (hs1 : ASteps P ops.toList (a :: (a + 1) :: List.range' (a + 2) (ops.size - a - 2)) σ0 σ1) (hs2 : ASteps P ops.toList ((a + 1) :: a :: List.range' (a + 2) (ops.size - a - 2)) σ0 σ2)
    (hR : Rel N X σ M act) (hQ1 : ∀ M' a', Rel N X σ1 M' a' → M'.O = M.O → Q .normal a' M'.w) (hQ2 : ∀ M' a', Rel N X σ2 M' a' → M'.O = M.O → Q .normal a' M'.w) : (Code.region id ops true).wp P Q act M.w := by
  have R := regOk_of hok
  unfold lastOk at hla
  simp only [Bool.and_eq_true, decide_eq_true_eq, List.all_eq_true, List.mem_range, Bool.or_eq_true] at hla
  refine wp_region_any hm ?_
  have hE := hR.heap.ext (Ext.drawn M.w (M.w.drawn + 1))
  have hR2 : Rel N X σ { M with w := { M.w with drawn := M.w.drawn + 1 } } act := ⟨hE.2, hR.size, hR.defers, fun t => VRel.mono hE.1 _ _ (hR.tm t)⟩
  have hall : ∀ k, k < ops.size → (Array.replicate ops.size false).getD k true = false := fun k hk => by simp [Array.getD_eq_getD_getElem?, hk]
  have hhi : remHi ops.size a (Array.replicate ops.size false) = List.range' (a + 2) (ops.size - a - 2) := List.filter_eq_self.2 fun i hi => by
    have := List.mem_range'_1.1 hi
    rw [hall i (by omega)]; rfl
  have hlo : remOf a (Array.replicate ops.size false) = List.range a := List.filter_eq_self.2 fun i hi => by
    have := List.mem_range.1 hi
    rw [hall i (by omega)]; rfl
  refine any_sound2 R hla.1 (fun i h1 h2 => ?_) (O := M.O) ops.size _ σ σ0 σ1 σ2 { M with w := { M.w with drawn := M.w.drawn + 1 } } act ?_ ?_ (hall a (by omega)) (hall _ hla.1) ?_ ?_ ?_ hR2 rfl hQ1 hQ2
  · rcases hla.2 i h2 with (h | h) | h
    · omega
    · exact .inl h
    · exact .inr h
  · rw [remOf_all]; simp
  · intro i o e ho hl
    have := (Array.getElem?_eq_some_iff.1 ho).1
    simp [Array.getD_eq_getD_getElem?, this] at hl
  · rw [hlo]; exact hs0
  · rw [hhi]; exact hs1
  · rw [hhi]; exact hs2
end Go.Am
