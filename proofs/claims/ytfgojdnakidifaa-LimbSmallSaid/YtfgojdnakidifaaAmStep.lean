/-
  'Am', part 14: calls by contract, one step of a region, and that a region's steps may be taken in any order.
-/
import Derived.Test.YtfgojdnakidifaaAmExec
set_option linter.unusedSimpArgs false
set_option linter.unusedVariables false
namespace Go.Am
variable {P : Program} {X : Ctx} {h : HP} {M : Mem}

mutual
/-- Names none of the call's own blocks. -/
def noRef : AV → Bool
  | .ptr _ _ | .sl _ _ _ _ => false
  | .agg cs => noRefs cs
  | .tup cs => noRefs cs
  | .fn _ a b => noRefs a && noRefs b
  | .int _ _ | .bool _ | .str _ | .exact _ | .ro _ _ | .rp _ | .nils | .dead => true
def noRefs : List AV → Bool
  | [] => true
  | c :: cs => noRef c && noRefs cs
end
mutual
/-- Speaks of no memory. -/
def flat : AV → Bool
  | .ptr _ _ | .sl _ _ _ _ | .ro _ _ | .rp _ => false
  | .agg cs => flats cs
  | .tup cs => flats cs
  | .fn _ a b => flats a && flats b
  | .int _ _ | .bool _ | .str _ | .exact _ | .nils | .dead => true
def flats : List AV → Bool
  | [] => true
  | c :: cs => flat c && flats cs
end

/-- What M' must keep of M for what names no block. -/
structure Mem.sees (M M' : Mem) : Prop where
  w : M'.w = M.w
  free : ∀ b, M.free b → M'.free b

mutual
theorem VRel.sees {M M' : Mem} (hs : M.sees M') {r r' : Bool} : ∀ (a : AV) (v : Value), noRef a = true → VRel M r a v → VRel M' r' a v
  | .int _ _, _, _, H | .bool _, _, _, H | .str _, _, _, H | .exact _, _, _, H | .nils, _, _, H | .dead, _, _, H => H
  | .agg cs, _, hn, ⟨a, e, H⟩ => ⟨a, e, VRels.sees hs cs a (by simpa [noRef] using hn) H⟩
  | .tup cs, _, hn, ⟨a, e, H⟩ => ⟨a, e, VRels.sees hs cs a (by simpa [noRef] using hn) H⟩
  | .fn _ fs cs, _, hn, ⟨a, b, e, H, K⟩ => by
      simp only [noRef, Bool.and_eq_true] at hn
      exact ⟨a, b, e, VRels.sees hs fs a hn.1 H, VRels.sees hs cs b hn.2 K⟩
  | .ptr _ _, _, hn, _ => by simp [noRef] at hn
  | .sl _ _ _ _, _, hn, _ => by simp [noRef] at hn
  | .ro n cs, v, _, ⟨base, cap, e, hn, H⟩ => ⟨base, cap, e, hn, H.imp id fun ⟨b, off, C, el, fz, hb, hh, hne, hp⟩ =>
      ⟨b, off, C, el, fz, hb, by rw [hs.w]; exact hh, hs.free b hne, VPre.sees hs cs _ hp⟩⟩
  | .rp cs, v, _, ⟨b, off, C, el, fz, hb, hh, hne, hp⟩ => ⟨b, off, C, el, fz, hb, by rw [hs.w]; exact hh, hs.free b hne, VPre.sees hs cs _ hp⟩
theorem VRels.sees {M M' : Mem} (hs : M.sees M') {r r' : Bool} : ∀ (cs : List AV) (l : List Value), noRefs cs = true → VRels M r cs l → VRels M' r' cs l
  | [], _, _, H => H
  | c :: cs, _, hn, ⟨v, vs, e, H, K⟩ => by
      simp only [noRefs, Bool.and_eq_true] at hn
      exact ⟨v, vs, e, VRel.sees hs c v hn.1 H, VRels.sees hs cs vs hn.2 K⟩
theorem VPre.sees {M M' : Mem} (hs : M.sees M') : ∀ (cs : List AV) (l : List Value), VPre M cs l → VPre M' cs l
  | [], _, H => H
  | c :: cs, _, ⟨v, vs, e, H, K⟩ => ⟨v, vs, e, VRel.sees' hs c v H, VPre.sees hs cs vs K⟩
/-- the same, where the flag bars references -/
theorem VRel.sees' {M M' : Mem} (hs : M.sees M') : ∀ (a : AV) (v : Value), VRel M false a v → VRel M' false a v
  | .int _ _, _, H | .bool _, _, H | .str _, _, H | .exact _, _, H | .nils, _, H | .dead, _, H => H
  | .agg cs, _, ⟨a, e, H⟩ => ⟨a, e, VRels.sees' hs cs a H⟩
  | .tup cs, _, ⟨a, e, H⟩ => ⟨a, e, VRels.sees' hs cs a H⟩
  | .fn _ fs cs, _, ⟨a, b, e, H, K⟩ => ⟨a, b, e, VRels.sees' hs fs a H, VRels.sees' hs cs b K⟩
  | .ptr _ _, _, ⟨hr, _⟩ => by cases hr
  | .sl _ _ _ _, _, ⟨hr, _⟩ => by cases hr
  | .ro n cs, v, ⟨base, cap, e, hn, H⟩ => ⟨base, cap, e, hn, H.imp id fun ⟨b, off, C, el, fz, hb, hh, hne, hp⟩ =>
      ⟨b, off, C, el, fz, hb, by rw [hs.w]; exact hh, hs.free b hne, VPre.sees hs cs _ hp⟩⟩
  | .rp cs, v, ⟨b, off, C, el, fz, hb, hh, hne, hp⟩ => ⟨b, off, C, el, fz, hb, by rw [hs.w]; exact hh, hs.free b hne, VPre.sees hs cs _ hp⟩
theorem VRels.sees' {M M' : Mem} (hs : M.sees M') : ∀ (cs : List AV) (l : List Value), VRels M false cs l → VRels M' false cs l
  | [], _, H => H
  | c :: cs, _, ⟨v, vs, e, H, K⟩ => ⟨v, vs, e, VRel.sees' hs c v H, VRels.sees' hs cs vs K⟩
end

mutual
theorem VRel.flat {M M' : Mem} {r r' : Bool} : ∀ (a : AV) (v : Value), flat a = true → VRel M r a v → VRel M' r' a v
  | .int _ _, _, _, H | .bool _, _, _, H | .str _, _, _, H | .exact _, _, _, H | .nils, _, _, H | .dead, _, _, H => H
  | .agg cs, _, hn, ⟨a, e, H⟩ => ⟨a, e, VRels.flat cs a (by simpa [Am.flat] using hn) H⟩
  | .tup cs, _, hn, ⟨a, e, H⟩ => ⟨a, e, VRels.flat cs a (by simpa [Am.flat] using hn) H⟩
  | .fn _ fs cs, _, hn, ⟨a, b, e, H, K⟩ => by
      simp only [Am.flat, Bool.and_eq_true] at hn
      exact ⟨a, b, e, VRels.flat fs a hn.1 H, VRels.flat cs b hn.2 K⟩
  | .ptr _ _, _, hn, _ => by simp [Am.flat] at hn
  | .sl _ _ _ _, _, hn, _ => by simp [Am.flat] at hn
  | .ro _ _, _, hn, _ => by simp [Am.flat] at hn
  | .rp _, _, hn, _ => by simp [Am.flat] at hn
theorem VRels.flat {M M' : Mem} {r r' : Bool} : ∀ (cs : List AV) (l : List Value), flats cs = true → VRels M r cs l → VRels M' r' cs l
  | [], _, _, H => H
  | c :: cs, _, hn, ⟨v, vs, e, H, K⟩ => by
      simp only [Am.flats, Bool.and_eq_true] at hn
      exact ⟨v, vs, e, VRel.flat c v hn.1 H, VRels.flat cs vs hn.2 K⟩
end

/-- The world of a callee: no block is its own yet. -/
def Mem.callee (O : Nat → Prop) (w : World) : Mem := ⟨fun j => j, fun _ => False, 0, O, w⟩

def Callable (P : Program) (f : FuncId) : Prop := ∃ fn, P.funcs[f]? = some fn ∧ fn.name ≠ "runtime.NumGoroutine" ∧ fn.body.isNone = false
/-- A CONTRACT: called at what 'args' say, function f returns what 'r' says; what was there stays. -/
def ASpec (P : Program) (f : FuncId) (args : List AV) (r : AV) : Prop := Callable P f ∧
  ∀ (O : Nat → Prop) (w : World) (vs : List Value), (∀ b, O b → b < w.heap.size) → VRels (Mem.callee O w) false args vs →
    Calls P f ⟨vs⟩ w fun e w' => ∃ v, e = .returned v ∧ Ext w w' ∧ VRel (Mem.callee O w') false r v

/-- A slice of the call's own, shown to a callee. -/
def view1 (h : HP) (a : AV) : AV :=
  match a with
  | .sl id off es n => match srcA es h (.sl id off es n) with
    | some (n, cs) => if noRefs cs = true then .ro n cs else .dead
    | none => .dead
  | a => if noRef a = true then a else .dead
def view (h : HP) (a : AV) : AV :=
  match a with
  | .agg cs => if noRefs cs = true then .agg cs else .agg (cs.map (view1 h))
  | a => view1 h a

theorem noRefs_pre {M M' : Mem} (hs : M.sees M') {cs : List AV} {l : List Value} (hn : noRefs cs = true) (hp : VPreR M cs l) : VPre M' cs l := by
  induction cs generalizing l with
  | nil => simp [VPre]
  | cons c cs ih =>
    obtain ⟨v, vs, rfl, h1, h2⟩ := hp
    simp only [noRefs, Bool.and_eq_true] at hn
    exact ⟨v, vs, rfl, VRel.sees hs c v hn.1 h1, ih hn.2 h2⟩

/-- Seen by a callee that may look into the call's own blocks. -/
theorem view1_rel (H : HRel X h M) {a : AV} {v : Value} (hv : VRel M true a v) : VRel (Mem.callee M.O M.w) false (view1 h a) v := by
  have hs : M.sees (Mem.callee M.O M.w) := ⟨rfl, fun b hb => ⟨fun _ hD => hD.elim, hb.2⟩⟩
  unfold view1
  split
  · rename_i id off es n
    split
    · rename_i n' cs hsrc
      split
      · rename_i hno
        simp only [srcA] at hsrc
        split at hsrc
        · rename_i k hk
          split at hsrc
          · rename_i hc
            cases hsrc
            have hD : M.D id := (H.dom id).2 (by simp [hk])
            obtain ⟨_, _, _, h7⟩ := hv
            obtain ⟨cap, e, sz, rfl, hn, _⟩ := h7 hD
            obtain ⟨C, el, hb, hpre, _⟩ := H.bk id k hk
            exact ⟨_, cap, rfl, hn, .inr ⟨M.φ id, off, C, el, (0, 0), rfl, hb, ⟨fun _ hD => hD.elim, (H.own id hD).2⟩, noRefs_pre hs hno ((hpre.drop off).take _)⟩⟩
          · cases hsrc
        · cases hsrc
      · exact trivial
    · exact trivial
  · split
    · rename_i hno
      exact VRel.sees hs _ _ hno hv
    · exact trivial
theorem view1s_rel (H : HRel X h M) : ∀ {cs : List AV} {l : List Value}, VRels M true cs l → VRels (Mem.callee M.O M.w) false (cs.map (view1 h)) l
  | [], _, hv => hv
  | _ :: _, _, ⟨v, vs, e, h1, h2⟩ => ⟨v, vs, e, view1_rel H h1, view1s_rel H h2⟩
theorem view_rel (H : HRel X h M) {a : AV} {v : Value} (hv : VRel M true a v) : VRel (Mem.callee M.O M.w) false (view h a) v := by
  have hs : M.sees (Mem.callee M.O M.w) := ⟨rfl, fun b hb => ⟨fun _ hD => hD.elim, hb.2⟩⟩
  unfold view
  split
  · obtain ⟨l, rfl, hl⟩ := hv
    split
    · rename_i hno
      exact ⟨l, rfl, VRels.sees hs _ _ hno hl⟩
    · exact ⟨l, rfl, view1s_rel H hl⟩
  · exact view1_rel H hv
theorem views_rel (H : HRel X h M) : ∀ {cs : List AV} {l : List Value}, VRels M true cs l → VRels (Mem.callee M.O M.w) false (cs.map (view h)) l
  | [], _, hv => hv
  | _ :: _, _, ⟨v, vs, e, h1, h2⟩ => ⟨v, vs, e, view_rel H h1, views_rel H h2⟩

/-- A call's answer r at the arguments args, in the caller's words. -/
def CallOk (P : Program) (g : FuncId) (args : List AV) (h : HP) (r : AV) : Prop :=
  (noRefs args = true ∧ ASpec P g args r ∧ noRef r = true) ∨ (ASpec P g (args.map (view h)) r ∧ flat r = true)

theorem callOk_sound (H : HRel X h M) {g : FuncId} {args : List AV} {vs : List Value} {r : AV} (hc : CallOk P g args h r) (hv : VRels M true args vs) :
    Calls P g ⟨vs⟩ M.w fun e w' => ∃ v, e = .returned v ∧ Ext M.w w' ∧ VRel { M with w := w' } true r v := by
  have hlt : ∀ b, M.O b → b < M.w.heap.size := fun b hb => Nat.lt_of_lt_of_le (H.old b hb) H.kept.size
  rcases hc with ⟨hn, hS, hnr⟩ | ⟨hS, hf⟩
  · have hs : M.sees (Mem.callee (fun b => M.O b ∨ ∃ id, M.D id ∧ M.φ id = b) M.w) := ⟨rfl, fun b hb => ⟨fun _ hD => hD.elim, fun ho => by
      rcases ho with ho | ⟨id, hD, he⟩
      · exact hb.2 ho
      · exact hb.1 id hD he⟩⟩
    refine (hS.2 _ M.w vs (fun b hb => ?_) (VRels.sees hs _ _ hn hv)).mono ?_
    · rcases hb with hb | ⟨id, hD, rfl⟩
      · exact hlt b hb
      · exact H.φ_lt hD
    · rintro e w' ⟨v, rfl, hx, hr⟩
      have hs2 : (Mem.callee (fun b => M.O b ∨ ∃ id, M.D id ∧ M.φ id = b) w').sees { M with w := w' } := ⟨rfl, fun b hb => ⟨fun id hD he => hb.2 (.inr ⟨id, hD, he⟩), fun ho => hb.2 (.inl ho)⟩⟩
      exact ⟨v, rfl, hx, VRel.sees hs2 _ _ hnr hr⟩
  · refine (hS.2 _ M.w vs hlt (views_rel H hv)).mono ?_
    rintro e w' ⟨v, rfl, hx, hr⟩
    exact ⟨v, rfl, hx, VRel.flat _ _ hf hr⟩

/-! ### One operation of a region -/
def AS.put (σ : AS) (dst : Option Tmp) (v : AV) : AS :=
  match dst with
  | some d => { σ with tm := upd σ.tm d v }
  | none => σ

/-- Is the operation carried out? -/
def guardA (ops : List Oper) (o : Oper) (tm : Nat → AV) : Option Bool :=
  match o.guard with
  | none => some true
  | some (j, want) => match (ops[j]?).bind (·.dst) with
    | some t => match tm t with
      | .bool b => some (b == want)
      | _ => none
    | none => none

def AExec (P : Program) (o : Oper) (σ σ' : AS) : Prop :=
  match o.op with
  | .call { callee := .value f, args, .. } => ∃ g first caps r fn, P.funcs[g]? = some fn ∧ fn.name ≠ "runtime.NumGoroutine" ∧ fn.body.isNone = false ∧ σ.ev f = .fn (.func g) first caps ∧
      CallOk P g (first ++ args.toList.map σ.ev ++ caps) σ.h r ∧ σ' = σ.put o.dst r
  | op => ∃ v h', exec P op σ.ev σ.h = some (v, h') ∧ σ' = ({ σ with h := h' } : AS).put o.dst v

def AStep (P : Program) (ops : List Oper) (i : Nat) (σ σ' : AS) : Prop :=
  match ops[i]? with
  | none => σ' = σ
  | some o => match guardA ops o σ.tm with
    | some true => AExec P o σ σ'
    | some false => σ' = σ.put o.dst .dead
    | none => False

theorem put_rel {N : Nat} {σ : AS} {M M' : Mem} {a : Act} (R : Rel N X σ M a) (hle : M.le M') {h' : HP} (H : HRel X h' M') {dst : Option Tmp} (hd : ∀ d, dst = some d → d < N) {v : AV} {u : Value} (hv : VRel M' true v u) :
    Rel N X (({ σ with h := h' } : AS).put dst v) M' (a.put dst u) := by
  cases dst with
  | none => exact ⟨H, R.size, R.defers, fun t => VRel.mono hle _ _ (R.tm t)⟩
  | some d =>
    refine ⟨H, by simp [Act.put, R.size], R.defers, fun t => ?_⟩
    have hdN := hd d rfl
    by_cases htd : t = d
    · subst htd
      have h1 : (a.put (some t) u).tmps.getD t undef = u := by
        simp [Act.put, Array.getD, R.size, hdN]
      rw [h1]
      show VRel M' true (upd σ.tm t v t) u
      rw [upd_same]; exact hv
    · have h1 : (a.put (some d) u).tmps.getD t undef = a.tmps.getD t undef := by
        simp [Act.put, Array.getElem?_setIfInBounds_ne (Ne.symm htd)]
      rw [h1]
      show VRel M' true (upd σ.tm d v t) _
      rw [upd_other _ _ _ _ htd]
      exact VRel.mono hle _ _ (R.tm t)

theorem wanted_rel {N : Nat} {σ : AS} {a : Act} (R : Rel N X σ M a) {ops : Array Oper} {o : Oper} {b : Bool} (hg : guardA ops.toList o σ.tm = some b) : Region.wanted o (yielded ops a.tmps) = b := by
  unfold guardA at hg
  unfold Region.wanted
  cases hgd : o.guard with
  | none => simp [hgd] at hg; simp [hg]
  | some jw =>
    obtain ⟨j, want⟩ := jw
    simp only [hgd] at hg
    split at hg
    · rename_i t ht
      split at hg
      · rename_i c hc
        cases hg
        have hr := R.tm t
        rw [hc] at hr
        simp only [VRel] at hr
        have hlt : t < a.tmps.size := by
          rcases Nat.lt_or_ge t a.tmps.size with h | h
          · exact h
          · simp [Array.getD, Nat.not_lt.2 h, undef] at hr
        have h2 : a.tmps[t]? = some (.bool c) := by
          rw [Array.getElem?_eq_getElem hlt]
          simp [Array.getD, hlt] at hr
          rw [hr]
        have h3 : (ops[j]?).bind (·.dst) = some t := by simpa using ht
        simp only [yielded, h3, Option.bind_some, h2]
        cases c <;> cases want <;> rfl
      · cases hg
    · cases hg

theorem astep_sound {N : Nat} {σ σ' : AS} {a : Act} (R : Rel N X σ M a) {ops : Array Oper} {i : Nat} (hs : AStep P ops.toList i σ σ') (hd : ∀ o d, ops[i]? = some o → o.dst = some d → d < N)
    {Q : Exit → Act → World → Prop} {K : Act → World → Prop} (hK : ∀ M' a', Rel N X σ' M' a' → M'.O = M.O → K a' M'.w) : wpOp P ops Q i K a M.w := by
  unfold AStep at hs
  unfold wpOp
  cases ho : ops[i]? with
  | none =>
    have : ops.toList[i]? = none := by simpa using ho
    simp only [this] at hs
    subst hs
    exact hK M a R rfl
  | some o =>
    have : ops.toList[i]? = some o := by simpa using ho
    simp only [this] at hs
    simp only
    split at hs
    · rename_i hg
      rw [wanted_rel R hg]
      simp only [if_true]
      left
      unfold AExec at hs
      split at hs
      · rename_i f args ts hop
        obtain ⟨g, first, caps, r, fn, hfn, hnm, hbd, hf, hc, rfl⟩ := hs
        have hfr := ev_rel R f
        rw [hf] at hfr
        obtain ⟨lf, lc, hfv, h1, h2⟩ := hfr
        have hargs : VRels M true (args.toList.map σ.ev) (args.toList.map a.eval) := by
          generalize args.toList = l
          induction l with
          | nil => rfl
          | cons x l ih => exact ⟨_, _, rfl, ev_rel R x, ih⟩
        have hcall := callOk_sound R.heap hc (VRels.append (VRels.append h1 hargs) h2)
        have hex : (execOp a.eval o).run P M.w = .ok (.enter g ⟨lf ++ args.toList.map a.eval ++ lc⟩) M.w := by
          have e1 : (⟨lf⟩ ++ Array.map a.eval args ++ ⟨lc⟩ : Array Value) = ⟨lf ++ args.toList.map a.eval ++ lc⟩ := by
            apply Array.ext'; simp
          simp only [execOp, hop, Sem.run_bind, resolve, hfv, Deferred.ofValue, Sem.run_pure, Result.andThen_ok, invoke, callFunc, run_program, hfn, Sem.run_ite, hbd]
          simp [hnm, e1]
        unfold Oper.wp
        rw [hex]
        unfold Oper.upon
        refine hcall.mono ?_
        rintro e w' ⟨v, rfl, hx, hr⟩
        have HE := R.heap.ext hx
        exact hK { M with w := w' } _ (put_rel R HE.1 HE.2 (fun d hdd => hd o d ho hdd) hr) rfl
      · rename_i op hne
        obtain ⟨v, h', he, rfl⟩ := hs
        obtain ⟨M', nx, q1, q2, q3, q4, q5⟩ := exec_sound R.heap o (fun x => ev_rel R x) he
        unfold Oper.wp
        rw [q1]
        cases nx <;> simp only [NextRel] at q5
        · exact hK M' _ (put_rel R q2 q4 (fun d hdd => hd o d ho hdd) q5) q3
        · subst q5
          exact hK M' _ (put_rel R q2 q4 (fun d hdd => hd o d ho hdd) (u := undef) trivial) q3
    · rename_i hg
      rw [wanted_rel R hg]
      subst hs
      simp only [Bool.false_eq_true, if_false]
      exact hK M _ (put_rel R (Mem.le.refl M) R.heap (fun d hdd => hd o d ho hdd) (u := undef) trivial) rfl
    · exact hs.elim
end Go.Am
