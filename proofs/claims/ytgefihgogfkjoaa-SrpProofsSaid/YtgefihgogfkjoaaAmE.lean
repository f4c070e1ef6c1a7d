/-
  AmE: AmRange
-/
import Derived.Test.YtgefihgogfkjoaaAmD
set_option linter.unusedSimpArgs false
set_option linter.unusedVariables false
/-! 'Am', part 28: a range over a function. -/
namespace Go.Am
variable {P : Program} {X : Ctx}

/-- Only what a loop's record may keep for certain: pointers. -/
def ptrs (tm : Nat → AV) (t : Nat) : AV := match tm t with | .ptr id off => .ptr id off | _ => .dead
theorem ptrs_cases (tm : Nat → AV) (t : Nat) : ptrs tm t = .dead ∨ ∃ id off, ptrs tm t = .ptr id off ∧ tm t = .ptr id off := by
  unfold ptrs
  split
  · rename_i id off h; exact .inr ⟨id, off, rfl, h⟩
  · exact .inl rfl
theorem ptrs_rel {M : Mem} {tm : Nat → AV} {t : Nat} {v : Value} (h : VRel M true (tm t) v) : VRel M true (ptrs tm t) v := by
  rcases ptrs_cases tm t with h1 | ⟨id, off, h1, h2⟩
  · rw [h1]; exact trivial
  · rw [h1, ← h2]; exact h
/-- A record of a loop whose body is one region. -/
structure LpOk (L : LoopI) (N : Nat) (p : Tmp) (ia : Nat) (A : Array Oper) (ib ic : Nat) (B : Array Oper) (tm : Nat → AV) : Prop where
  ready : L.lr.state = .ready
  pend : L.lr.pending = none
  size : L.lr.tmps.size = N
  params : L.lr.params = #[p]
  assign : L.lr.assign = .region ia A false
  body : L.lr.body = .block ib (.region ic B false)
  tms : L.tm = ptrs tm

/-- One round. -/
theorem yspec_of {L : LoopI} {N : Nat} {p : Tmp} {ia ib ic : Nat} {A B : Array Oper} {tm : Nat → AV} (hL : LpOk L N p ia A ib ic B tm) (hp : p < N) (hA : dstOk N A = true) (hB : dstOk N B = true) {x : AV} {h : HP} {R : HP → Prop}
    (hv : opsV P (.yes none) A.toList A.toList ⟨upd (ptrs tm) p x, h⟩ fun σ1 => opsV P (.yes none) B.toList B.toList σ1 fun σ2 => R σ2.h) : YSpec P L [x] h R := by
  intro X M vs hX H hI hvs
  obtain ⟨hw0, hnS, htm, hk0, hdl⟩ := hX
  obtain ⟨xv, vs', rfl, hx, hvs⟩ := hvs
  cases hvs
  have hl0 := block_lt hw0
  have hw : M.w.heap[L.l]? = some (.loop L.lr) := by rw [H.kept.block _ hl0 hnS]; exact hw0
  have hy := run_yield (P := P) (args := ⟨[xv]⟩) hw (by rw [hL.params]; rfl)
  refine ⟨_, _, _, _, hy, fun c cs => ?_⟩
  rw [hL.params, hL.assign, hL.body]
  have hzip : ((#[p] : Array Tmp).zip (⟨[xv]⟩ : Array Value)).foldl (fun tmps (t, a) => tmps.setIfInBounds t a) L.lr.tmps = L.lr.tmps.setIfInBounds p xv := by simp
  rw [hzip]
  let b : Frame := { (default : Frame) with fn := L.lr.fn, kind := .normal, roundOf := some L.l }
  let a0 : Act := { tmps := L.lr.tmps.setIfInBounds p xv, defers := [] }
  have hb0 : Frame.round L.l L.lr.fn (L.lr.tmps.setIfInBounds p xv) (.region ia A false) (.block ib (.region ic B false)) .normal = b.atR a0 [.code (.region ia A false), .beginRound, .code (.block ib (.region ic B false))] := by
    simp [Frame.round, Frame.atR, b, a0]
  rw [hb0]
  have hptr : ∀ t, VRel M true (ptrs tm t) (L.lr.tmps.getD t undef) := fun t => by
    have h1 := htm t
    rw [hL.tms] at h1
    rcases ptrs_cases tm t with h2 | ⟨id, off, h2, _⟩
    · rw [h2]; exact trivial
    · rw [h2] at h1 ⊢
      obtain ⟨q1, q2, q3, q4⟩ := h1
      refine ⟨q1, q2, Nat.lt_of_lt_of_le q3 (Nat.le_trans hk0 hI.1), fun hD => ?_⟩
      obtain ⟨r1, r2, _⟩ := hI.2 id (Nat.lt_of_lt_of_le q3 hk0) hD
      rw [r2]; exact q4 r1
  have R0 : Rel N X ⟨upd (ptrs tm) p x, h⟩ M a0 := by
    refine ⟨H, by simp [a0, hL.size], hdl.symm, .inl hdl, fun t => ?_, hI⟩
    by_cases htp : t = p
    · subst htp
      have : a0.tmps.getD t undef = xv := by simp [a0, Array.getD, hL.size, hp]
      rw [this]
      show VRel M true (upd (ptrs tm) t x t) xv
      rw [upd_same]; exact hx
    · have : a0.tmps.getD t undef = L.lr.tmps.getD t undef := by simp [a0, Array.getElem?_setIfInBounds_ne (Ne.symm htp)]
      rw [this]
      show VRel M true (upd (ptrs tm) p x t) _
      rw [upd_other _ _ _ _ htp]
      exact hptr t
  have idx : ∀ C : Array Oper, (List.range C.size).map (fun i => C.toList[i]?) = C.toList.map some := fun C => by
    have := idx_range' C.toList 0
    simpa [List.range_eq_range'] using this
  obtain ⟨σ1, M1, a1, q1, q2, q3, q4, q5⟩ := opsR_sound (X := X) (lp := none) hA _ _ (idx A) _ _ M a0 trivial hv R0 b [.beginRound, .code (.block ib (.region ic B false))] (c :: cs) rfl
  -- the round begins
  have hw1 : M1.w.heap[L.l]? = some (.loop L.lr) := by rw [q2.heap.kept.block _ hl0 hnS]; exact hw0
  have hbr := run_beginRound (P := P) hw1 hL.ready
  let busy : Obj := .loop { L.lr with state := .busy }
  let Y : Ctx := { X with w0 := X.w0.putObj L.l busy }
  obtain ⟨hle1, hT1⟩ := q2.heap.turn (o' := busy) hw1 rfl
  have HY : HRel Y σ1.h { M1 with w := M1.w.putObj L.l busy } := by
    refine hT1 Y ⟨q2.heap.kept.os, q2.heap.kept.tape, q2.heap.kept.output, by show (X.w0.putObj L.l busy).heap.size ≤ (M1.w.putObj L.l busy).heap.size; simp only [World.putObj_size]; exact q2.heap.kept.size, fun k hk hn => ?_⟩
      (fun b hb => by show b < (X.w0.putObj L.l busy).heap.size; simp only [World.putObj_size]; exact q2.heap.old b hb)
      (fun id hd => by show (X.w0.putObj L.l busy).heap.size ≤ _ ∨ _; simp only [World.putObj_size]; exact (q2.heap.own id hd).1)
    show (M1.w.putObj L.l busy).heap[k]? = (X.w0.putObj L.l busy).heap[k]?
    have hk : k < (X.w0.putObj L.l busy).heap.size := hk
    simp only [World.putObj_size] at hk
    by_cases hkl : k = L.l
    · subst hkl
      rw [World.putObj_heap_same (block_lt hw1), World.putObj_heap_same hl0]
    · rw [World.putObj_heap_other hkl, World.putObj_heap_other hkl]
      exact q2.heap.kept.block k hk hn
  have R1 : Rel N Y σ1 { M1 with w := M1.w.putObj L.l busy } a1 := ⟨HY, q2.size, q2.defers, .inl hdl, fun t => VRel.mono hle1 _ _ (q2.tm t), (q2.inv.le hle1)⟩
  obtain ⟨σ2, M2, a2, r1, r2, r3, r4, r5⟩ := opsR_sound (X := Y) (lp := none) hB _ _ (idx B) _ _ _ a1 trivial q1 R1 b [.inBlock ib] (c :: cs) rfl
  -- the round ends
  have hw2 : M2.w.heap[L.l]? = some busy := by
    rw [r2.heap.kept.block L.l (by show L.l < (X.w0.putObj L.l busy).heap.size; simpa using hl0) hnS]
    exact World.putObj_heap_same hl0
  have her := run_endRound (P := P) none hw2
  have hrec : (Obj.loop { ({ L.lr with state := LoopState.busy } : Loop) with state := if (none : Option Code).isNone = true then LoopState.ready else LoopState.done, pending := none }) = .loop L.lr := by
    have h1 := hL.ready
    have h2 := hL.pend
    obtain ⟨l, lr, tm'⟩ := L
    obtain ⟨st, pn, f1, f2, f3, f4, f5, f6⟩ := lr
    simp only at h1 h2
    subst h1
    subst h2
    rfl
  obtain ⟨hle2, hT2⟩ := r2.heap.turn (o' := .loop L.lr) hw2 rfl
  have HX2 : HRel X σ2.h { M2 with w := M2.w.putObj L.l (.loop L.lr) } := by
    refine hT2 X ⟨r2.heap.kept.os, r2.heap.kept.tape, r2.heap.kept.output, ?_, fun k hk hn => ?_⟩ (fun b hb => ?_) (fun id hd => ?_)
    · have := r2.heap.kept.size
      have e : Y.w0.heap.size = X.w0.heap.size := World.putObj_size
      rw [World.putObj_size]; omega
    · by_cases hkl : k = L.l
      · subst hkl
        rw [World.putObj_heap_same (block_lt hw2)]; exact hw0.symm
      · rw [World.putObj_heap_other hkl]
        have := r2.heap.kept.block k (by show k < (X.w0.putObj L.l busy).heap.size; simpa using hk) hn
        rw [this]
        exact World.putObj_heap_other hkl
    · have := r2.heap.old b hb
      have e : Y.w0.heap.size = X.w0.heap.size := World.putObj_size
      omega
    · have := (r2.heap.own id hd).1
      have e : Y.w0.heap.size = X.w0.heap.size := World.putObj_size
      rw [e] at this
      exact this
  refine ⟨{ M2 with w := M2.w.putObj L.l (.loop L.lr) }, σ2.h, r1, HX2, q3.trans (hle1.trans (r3.trans hle2)), r4.trans q4, ?_⟩
  refine .head stepR_region (Steps.trans q5 (.head (stepR_beginRound rfl hbr) (.head stepR_block (.head stepR_region (Steps.trans r5 (.head stepR_inBlock (.one ?_)))))))
  rw [hrec] at her
  exact stepR_round_end rfl rfl her

/-- The statement: the function that is ranged over is called once; the rounds are met within it. -/
theorem GoA.rangeFunc {fn : FnE} (hlp : fn.lp = none) (hm : fn.m = false) {g : Operand} {p : Tmp} {ia ib ic : Nat} {A B : Array Oper} {k : List Item} {σ : AS} {r : RV} {gf : FuncId} {caps : List AV} {Q : AV → HP → Prop} (hg : σ.ev g = .fn (.func gf) [] caps)
    (hcall : ∀ L : LoopI, LpOk L fn.fn.ntmps p ia A ib ic B σ.tm → PSpecL P (some L) gf (.fn (.yield L.l) [] [] :: caps) σ.h Q)
    (hk : ∀ r' h', σ.h.nt ≤ h'.nt → Q r' h' → GoA P { fn with m := true } k ⟨σ.tm, h'⟩ r) :
    GoA P fn (.code (.rangeFunc g #[p] (.region ia A false) (.block ib (.region ic B false))) :: k) σ r := by
  intro hok X M a hS R b cs hb hf
  obtain ⟨hXk, hXl, hXd⟩ := hS
  have hdl := hXd hm
  simp only [okTodo, List.all_cons, Bool.and_eq_true] at hok
  let b' : Frame := { b with roundOf := none }
  rw [at_atR]
  have hent := run_enterLoop_outer (P := P) (w := M.w) b'.fn a.tmps #[p] (.region ia A false) (.block ib (.region ic B false))
  let lr : Loop := { state := .ready, pending := none, fn := b'.fn, tmps := a.tmps, params := #[p], assign := .region ia A false, body := .block ib (.region ic B false), defers := M.w.heap.size }
  let D := M.w.heap.size
  let l := M.w.heap.size + 1
  let w1 : World := (M.w.alloc (.deferred (some []))).alloc (.loop lr)
  let M1 : Mem := { M with w := w1 }
  have hE : Ext M.w w1 := (Ext.push M.w _).trans (Ext.push _ _)
  obtain ⟨hle1, HX1⟩ := R.heap.ext hE
  have hwl : w1.heap[l]? = some (.loop lr) := by
    have := World.alloc_heap_new (M.w.alloc (.deferred (some []))) (.loop lr)
    rwa [World.size_alloc] at this
  have hwD : w1.heap[D]? = some (.deferred (some [])) := by
    have h1 := World.alloc_heap_new M.w (.deferred (some []))
    exact (Ext.push (M.w.alloc (.deferred (some []))) (.loop lr)).get h1
  let L : LoopI := ⟨l, lr, ptrs σ.tm⟩
  have hL : LpOk L fn.fn.ntmps p ia A ib ic B σ.tm := ⟨rfl, rfl, R.size, rfl, rfl, rfl, rfl⟩
  obtain ⟨⟨gfn, hgf, hnm, hbd⟩, hP⟩ := hcall L hL
  have hgv := ev_rel R g
  rw [hg] at hgv
  obtain ⟨lf, lc, hgv1, h1, h2⟩ := hgv
  cases h1
  let X' : Ctx := ⟨w1, fun b => ∃ id, M1.D id ∧ M1.φ id = b, 0, M1, []⟩
  have HX' : HRel X' σ.h M1 := HX1.rebase _ _ _
  have hLp : LpAt (some L) M1 := ⟨hwl, fun t => VRel.mono hle1 _ _ (ptrs_rel (R.tm t))⟩
  have hvs : VRels M1 true (.fn (.yield L.l) [] [] :: caps) (.func (.yield l) #[] #[] :: lc) := ⟨_, _, rfl, ⟨[], [], rfl, rfl, rfl⟩, VRels.mono hle1 _ _ h2⟩
  have hcl := hP X' M1 _ hLp HX' hvs
  have hres : (resolve a.eval (rangeCall g l) 0).run P w1 = .ok { target := .fn (.func gf) ⟨lc⟩, args := #[.func (.yield l) #[] #[]] } w1 := by
    have e1 : ((⟨[]⟩ : Array Value) ++ Array.map a.eval #[Operand.const (Value.func (Fn.yield l) #[] #[])]) = #[.func (.yield l) #[] #[]] := by
      apply Array.ext'
      simp
      rfl
    simp only [resolve, rangeCall, hgv1, Deferred.ofValue, e1, Sem.run_pure]
  have hinv : (invoke (Target.fn (.func gf) ⟨lc⟩) #[.func (.yield l) #[] #[]]).run P w1 = .ok (.enter gf ⟨.func (.yield l) #[] #[] :: lc⟩) w1 := by
    have e1 : (#[.func (.yield l) #[] #[]] ++ ⟨lc⟩ : Array Value) = ⟨.func (.yield l) #[] #[] :: lc⟩ := by
      apply Array.ext'; simp
    simp only [invoke, callFunc, Sem.run_bind, run_program, hgf, Result.andThen_ok, Sem.run_ite, hbd]
    simp [hnm, e1]
  let mark : List Deferred := [{ target := .collected D, args := #[] }]
  let a1 : Act := { a with defers := mark ++ a.defers }
  have hstep := stepR_rangeFunc (P := P) (b := b') (a := a) (k := k) (cs := cs) (w := M.w) (by rw [show b'.roundOf = none from rfl]; exact hent) hres hinv
  obtain ⟨e, w2, fr, ⟨v, M2, r', h', rfl, rfl, hO2, hle2, hQ, HX2', hv2⟩, hsteps, hfn, hleave⟩ := hcl (b'.atR a1 (.inRangeFunc l :: k) :: cs)
  have hret := step_leave_returned (c := b'.atR a1 (.inRangeFunc l :: k)) (cs := cs) hleave
  rw [finish_atR_inRangeFunc] at hret
  -- the record and the mark's block lie as they lay
  have notS : ∀ (c : Nat) (o : Obj), M1.w.heap[c]? = some o → notCells o = true → ¬ X'.S c := fun c o hc hn => HX1.notOwn hc hn
  have hwl2 : M2.w.heap[l]? = some (.loop lr) := by rw [HX2'.kept.block l (block_lt hwl) (notS l _ hwl rfl)]; exact hwl
  have hwD2 : M2.w.heap[D]? = some (.deferred (some [])) := by rw [HX2'.kept.block D (block_lt hwD) (notS D _ hwD rfl)]; exact hwD
  have hend := run_endLoop (P := P) hwl2 (by show LoopState.ready ≠ LoopState.busy; decide)
  have hends := stepR_endRangeFunc (b := b') (a := a1) (k := k) (cs := cs) hend
  let ex : Obj := .loop { lr with state := .exhausted }
  let w3 : World := M2.w.putObj l ex
  let M3 : Mem := { M2 with w := w3 }
  obtain ⟨hle3, hT⟩ := HX2'.turn (o' := ex) hwl2 rfl
  have hw3D : w3.heap[D]? = some (.deferred (some [])) := by
    rw [World.putObj_heap_other (show D ≠ l by simp [D, l])]; exact hwD2
  have hszX : X.w0.heap.size ≤ M.w.heap.size := R.heap.kept.size
  have hsz1 : M.w.heap.size ≤ w1.heap.size := hE.size
  have hK2 : Kept X.S X.w0 M2.w := by
    refine ⟨HX2'.kept.os.trans HX1.kept.os, HX2'.kept.tape.trans HX1.kept.tape, HX2'.kept.output.trans HX1.kept.output, Nat.le_trans HX1.kept.size HX2'.kept.size, fun c hc hn => ?_⟩
    rw [HX2'.kept.block c (Nat.lt_of_lt_of_le hc (Nat.le_trans hszX hsz1)) ?_]
    · exact HX1.kept.block c hc hn
    · rintro ⟨id, hd, he⟩
      rcases (HX1.own id hd).1 with h | h
      · have : X.w0.heap.size ≤ c := by rw [← he]; exact h
        omega
      · exact hn (he ▸ h)
  have HX2 : HRel X h' M2 := HRel.unbase HX1 HX2' (Nat.le_trans hszX hsz1) (fun c hc => .inr hc) hO2 hK2
  obtain ⟨hle3', hT2⟩ := HX2.turn (o' := ex) hwl2 rfl
  let X2 : Ctx := ⟨w3, fun c => ∃ id, M3.D id ∧ M3.φ id = c, X.k, X.M0, mark⟩
  have hOw3 : ∀ c, M2.O c → c < w3.heap.size := fun c hc => by
    have := HX2.old c hc
    have h2 := HX2.kept.size
    show c < (M2.w.putObj l ex).heap.size
    rw [World.putObj_size]; omega
  have HR2 : HRel X2 h' M3 := hT2 X2 ⟨rfl, rfl, rfl, Nat.le_refl _, fun _ _ _ => rfl⟩ hOw3 fun id hd => .inr ⟨id, hd, rfl⟩
  have hKX : Kept X.fin.S X.w0 w3 := by
    refine ⟨hK2.os, hK2.tape, hK2.output, by show _ ≤ (M2.w.putObj l ex).heap.size; rw [World.putObj_size]; exact hK2.size, fun c hc hn => ?_⟩
    show (M2.w.putObj l ex).heap[c]? = _
    have hc' : c < X.w0.heap.size := hc
    rw [World.putObj_heap_other (show c ≠ l by simp only [l]; omega)]
    exact hK2.block c hc fun h => hn (.inl h)
  have HXf : HRel X.fin h' M3 := hT2 X.fin hKX HX2.old fun id hd => (HX2.own id hd).1.imp (fun h => h) .inl
  have hlea : M.le M3 := hle1.trans (hle2.trans hle3)
  have hnD : ¬ X2.S D := by
    rintro ⟨id, hd, he⟩
    exact HR2.notOwn hw3D rfl ⟨id, hd, he⟩
  have R2 : Rel fn.fn.ntmps X2 ⟨σ.tm, h'⟩ M3 a1 := by
    refine ⟨HR2, R.size, ?_, .inr ⟨D, rfl, hnD, hw3D⟩, fun t => VRel.mono hlea _ _ (R.tm t), R.inv.le hlea⟩
    show mark ++ a.defers = mark
    rw [R.defers, hdl, List.append_nil]
  have hnt : σ.h.nt ≤ h'.nt := by rw [← HX2.n, ← HX1.n]; exact hle2.n
  obtain ⟨v2, w4, fr2, hfin, hs2, hf2, hl2⟩ := hk r' h' hnt hQ hok.2 X2 M3 a1 ⟨hXk, by show X2.okL fn.lp; rw [hlp]; trivial, fun h => by cases h⟩ R2 b cs hb hf
  have hS2 : ∀ c, X2.fin.S c → X.w0.heap.size ≤ c ∨ ∃ id, M3.D id ∧ M3.φ id = c := fun c hc => by
    rcases hc with hc | hc
    · exact .inr hc
    · have : D = c := by simpa [mark, X2] using hc
      exact .inl (by rw [← this]; exact hszX)
  have hK4 : Kept X2.fin.S w3 w4 := hfin.1
  have hK5 : Kept X.fin.S X.w0 w4 := by
    refine ⟨hK4.os.trans hKX.os, hK4.tape.trans hKX.tape, hK4.output.trans hKX.output, Nat.le_trans hKX.size hK4.size, fun c hc hn => ?_⟩
    have hcw : c < w3.heap.size := Nat.lt_of_lt_of_le hc hKX.size
    rw [hK4.block c hcw ?_]
    · exact hKX.block c hc hn
    · intro h
      rcases hS2 c h with h | ⟨id, hd, he⟩
      · have hc' : c < X.w0.heap.size := hc
        omega
      · rcases (HXf.own id hd).1 with h | h
        · have h' : X.w0.heap.size ≤ M3.φ id := h
          have hc' : c < X.w0.heap.size := hc
          omega
        · exact hn (he ▸ h)
  refine ⟨v2, w4, fr2, ⟨hK5, ?_⟩, ?_, hf2, hl2⟩
  · cases r with
    | val c =>
      have := hfin.2
      rw [show M3.O = M.O from hO2] at this
      exact this
    | own Q2 =>
      obtain ⟨M4, c, h4, q1, q2, q3, q4, q5, q6⟩ := hfin.2
      refine ⟨M4, c, h4, q1, q2, q3.trans hO2, ?_, q5, q6⟩
      exact HRel.unbase HXf q4 hKX.size (fun c hc => hS2 c hc) q3 (q2 ▸ hK5)
  · refine .head hstep (Steps.trans hsteps (.head hret (.head hends ?_)))
    have e : b'.atR a1 (((none : Option Code).map Item.code).toList ++ k) = b.at a1 k := by simp [at_atR, b']
    have e2 : lr.pending = none := rfl
    rw [e2, e]
    exact hs2

/-! ### In the prover's words -/
theorem goT_rangeFunc {f : Func} {ex : List Nat} {kk : Nat} {g : Operand} {p : Tmp} {ia ib ic : Nat} {A B : List Oper} {k : List Item} {σ : AS} {r : RV} {t1 t2 t3} {gf : FuncId} {caps : List AV} (Q : AV → HP → Prop) (hg : σ.ev g = .fn (.func gf) [] caps)
    (hcall : ∀ L : LoopI, LpOk L f.ntmps p ia A.toArray ib ic B.toArray σ.tm → PSpecL P (some L) gf (.fn (.yield L.l) [] [] :: caps) σ.h Q)
    (hk : ∀ r' h', σ.h.nt ≤ h'.nt → Q r' h' → goT P ⟨f, ex, kk, none, true⟩ k r ⟨⟩ ⟨⟩ ⟨⟩ ⟨σ.tm, h'⟩) :
    goT P ⟨f, ex, kk, none, false⟩ (.code (.rangeFunc g (List.toArray [p]) (.region ia (List.toArray A) false) (.block ib (.region ic (List.toArray B) false))) :: k) r t1 t2 t3 σ :=
  GoA.rangeFunc (fn := ⟨f, ex, kk, none, false⟩) rfl rfl hg hcall hk
theorem yspec_T {L : LoopI} {N : Nat} {p : Tmp} {ia ib ic : Nat} {A B : List Oper} {tm : Nat → AV} (hL : LpOk L N p ia A.toArray ib ic B.toArray tm) (hp : p < N) (hA : dstOk N A.toArray = true) (hB : dstOk N B.toArray = true) {x : AV} {h : HP} {R : HP → Prop}
    (hv : opsT P (.yes none) A A (fun σ1 => opsT P (.yes none) B B (fun σ2 => R σ2.h) ⟨⟩ ⟨⟩ ⟨⟩ σ1) ⟨⟩ ⟨⟩ ⟨⟩ ⟨upd (ptrs tm) p x, h⟩) : YSpec P L [x] h R := yspec_of hL hp hA hB hv
end Go.Am
