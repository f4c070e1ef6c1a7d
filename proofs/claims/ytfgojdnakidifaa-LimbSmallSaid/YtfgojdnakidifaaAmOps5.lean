/-
  'Am', part 7: slice expressions, what a slice holds, conversions, len, copy, append.
-/
import Derived.Test.YtfgojdnakidifaaAmOps4
import Derived.Laws.BytesArg
import Derived.Lib.ConvBytes
set_option linter.unusedSimpArgs false
set_option linter.unusedVariables false
namespace Go.Am
variable {P : Program} {X : Ctx} {h : HP} {M : Mem}

/-! ### Slice expressions -/
def ORel (M : Mem) : Option AV → Option Value → Prop
  | none, none => True
  | some a, some v => VRel M true a v
  | _, _ => False

def bnd (a : Option AV) (dflt lim : Nat) : Option Nat :=
  match a with
  | none => some dflt
  | some (.int _ i) => if 0 ≤ i ∧ i ≤ lim then some i.toNat else none
  | some _ => none

theorem run_sliceBound (w : World) (k : IntKind) (i : Int) (y : Nat) (c : BoundsCode) (h0 : 0 ≤ i) (h1 : i ≤ y) : (Instr.sliceBound (.int k i) y c).run P w = .ok i.toNat w := by
  simp [Instr.sliceBound, asIntOf, h0, h1]

/-- A slice of which 'm' is the room. -/
theorem run_sliceBounds {lo hi mx : Option AV} {vlo vhi vmx : Option Value} (hlo : ORel M lo vlo) (hhi : ORel M hi vhi) (hmx : ORel M mx vmx) (isS : Bool) (len cap n : Nat) (hn : n ≤ cap) (hlen : hi = none → len = n)
    {mB hB l : Nat} (e1 : bnd mx n n = some mB) (e2 : bnd hi n mB = some hB) (e3 : bnd lo 0 hB = some l) (hm : hi = none → mx = none) :
    ∃ m, (Instr.sliceBounds isS len cap vlo vhi vmx).run P M.w = .ok (l, hB, m) M.w ∧ l ≤ hB ∧ hB ≤ m ∧ m ≤ cap ∧ hB ≤ n := by
  have hmB : mB ≤ n ∧ ∃ m, mB ≤ m ∧ m ≤ cap ∧ ((match vmx with
      | some v => Instr.sliceBound v cap (if isS then .slice3Acap else .slice3Alen)
      | none => pure cap : Sem Nat).run P M.w = .ok m M.w) ∧ (mx ≠ none → m = mB) ∧ (mx = none → m = cap ∧ mB = n) := by
    unfold bnd at e1
    split at e1
    · cases e1
      cases vmx with
      | none => exact ⟨Nat.le_refl _, cap, hn, Nat.le_refl _, rfl, fun h => absurd rfl h, fun _ => ⟨rfl, rfl⟩⟩
      | some v => simp [ORel] at hmx
    · rename_i k i
      split at e1
      · rename_i hc
        cases e1
        cases vmx with
        | none => simp [ORel] at hmx
        | some v =>
          simp only [ORel, VRel] at hmx
          subst hmx
          refine ⟨by omega, i.toNat, Nat.le_refl _, by omega, run_sliceBound _ k i cap _ hc.1 (by omega), fun _ => rfl, fun h => by cases h⟩
      · cases e1
    · cases e1
  obtain ⟨hmn, m, hm1, hm2, hm3, hm4, hm5⟩ := hmB
  have hhB : hB ≤ mB ∧ ((match vhi, vmx with
      | some v, some _ => Instr.sliceBound v m .slice3B
      | some v, none => Instr.sliceBound v m (if isS then .sliceAcap else .sliceAlen)
      | none, none => pure len
      | none, some _ => stuck "Slice: max without high" : Sem Nat).run P M.w = .ok hB M.w) := by
    unfold bnd at e2
    split at e2
    · cases e2
      have hmx0 : mx = none := hm rfl
      subst hmx0
      have h5 := hm5 rfl
      cases vhi with
      | none =>
        cases vmx with
        | none => exact ⟨by omega, by rw [hlen rfl]; rfl⟩
        | some v => simp [ORel] at hmx
      | some v => simp [ORel] at hhi
    · rename_i k i
      split at e2
      · rename_i hc
        cases e2
        cases vhi with
        | none => simp [ORel] at hhi
        | some v =>
          simp only [ORel, VRel] at hhi
          subst hhi
          refine ⟨by omega, ?_⟩
          cases vmx <;> exact run_sliceBound _ k i m _ hc.1 (by omega)
      · cases e2
    · cases e2
  have hll : l ≤ hB ∧ ((match vlo with
      | some v => Instr.sliceBound v hB (if vmx.isSome then .slice3C else .sliceB)
      | none => pure 0 : Sem Nat).run P M.w = .ok l M.w) := by
    unfold bnd at e3
    split at e3
    · cases e3
      cases vlo with
      | none => exact ⟨Nat.zero_le _, rfl⟩
      | some v => simp [ORel] at hlo
    · rename_i k i
      split at e3
      · rename_i hc
        cases e3
        cases vlo with
        | none => simp [ORel] at hlo
        | some v =>
          simp only [ORel, VRel] at hlo
          subst hlo
          exact ⟨by omega, run_sliceBound _ k i hB _ hc.1 hc.2⟩
      · cases e3
    · cases e3
  refine ⟨m, ?_, hll.1, by omega, hm2, by omega⟩
  have hh := hhB.2
  have hl := hll.2
  clear hhB hll hm4 hm5 hm e1 e2 e3 hlen
  cases vmx <;> cases vhi <;> cases vlo <;> simp only at hm3 hh hl <;> simp only [Instr.sliceBounds] <;>
    first
    | (rw [Sem.run_bind, hm3, Result.andThen_ok, Sem.run_bind, hh, Result.andThen_ok, Sem.run_bind, hl, Result.andThen_ok]; rfl)
    | (exfalso; revert hh; simp [stuck])

def winA (id off es l hB : Nat) : AV := if l = 0 then .sl id off es hB else if l < hB then .sl id (off + l * es) es (hB - l) else .ro 0 []

def sliceA (i : TyI) (h : HP) (x : AV) (lo hi mx : Option AV) : Option AV :=
  match i.td, x with
  | .array n _ es _, .ptr id off => match h.bk id with
    | some k => if off + n * es ≤ k.cs.length ∧ (hi = none → mx = none) then
        (match bnd mx n n with
        | some mB => match bnd hi n mB with
          | some hB => match bnd lo 0 hB with
            | some l => some (winA id off es l hB)
            | none => none
          | none => none
        | none => none) else none
    | none => none
  | .slice _ es' _ _, .sl id off es n => if es = es' ∧ (h.bk id).isSome = true ∧ (hi = none → mx = none) then
        (match bnd mx n n with
        | some mB => match bnd hi n mB with
          | some hB => match bnd lo 0 hB with
            | some l => some (winA id off es l hB)
            | none => none
          | none => none
        | none => none) else none
  | .slice _ es _ _, .ro n cs => if (hi = none → mx = none) then
        (match bnd mx n n with
        | some mB => match bnd hi n mB with
          | some hB => match bnd lo 0 hB with
            | some l => some (.ro (hB - l) ((cs.drop (l * es)).take ((hB - l) * es)))
            | none => none
          | none => none
        | none => none) else none
  | .slice _ _ _ _, .nils => if mx = none then
        (match bnd hi 0 0 with
        | some hB => match bnd lo 0 hB with
            | some _ => some .nils
            | none => none
        | none => none) else none
  | .str, .str s => if mx = none then
        (match bnd hi s.size s.size with
        | some hB => match bnd lo 0 hB with
            | some l => some (.str (s.extract l hB))
            | none => none
        | none => none) else none
  | _, _ => none

theorem win_rel {id off es cap l hB m : Nat} {e : TypeId} {sz : Nat} (h6 : id < M.n) (hs : M.w.shape? (M.φ id) = some (e, sz)) (hc : off + cap * es ≤ sz) (h1 : l ≤ hB) (h2 : hB ≤ m) (h3 : m ≤ cap) :
    VRel M true (winA id off es l hB) (.slice (some (if m = l then ⟨M.φ id, off, none⟩ else (⟨M.φ id, off, none⟩ : Addr).add (l * es))) (hB - l) (m - l)) := by
  have hcm : l * es + (m - l) * es ≤ cap * es := by rw [← Nat.add_mul]; exact Nat.mul_le_mul_right _ (by omega)
  unfold winA
  split
  · rename_i h0
    subst h0
    have hmul : m * es ≤ cap * es := Nat.mul_le_mul_right _ h3
    refine ⟨rfl, rfl, h6, fun _ => ⟨m, e, sz, ?_, by omega, hs, by omega⟩⟩
    simp [addr_add]
  · split
    · rename_i h4
      refine ⟨rfl, rfl, h6, fun _ => ⟨m - l, e, sz, ?_, by omega, hs, by omega⟩⟩
      rw [if_neg (by omega), addr_add]
    · have : hB - l = 0 := by omega
      rw [this]
      exact ⟨_, _, rfl, Nat.zero_le _, .inl rfl⟩

theorem slice_sound (H : HRel X h M) {t : TypeId} {i : TyI} (hi : tyI P t = some i) {x c : AV} {xv : Value} {lo hiB mx : Option AV} {vlo vhi vmx : Option Value} (hx : VRel M true x xv)
    (hlo : ORel M lo vlo) (hhi : ORel M hiB vhi) (hmx : ORel M mx vmx) (hc : sliceA i h x lo hiB mx = some c) :
    ∃ v, (Instr.sliceAt t xv vlo vhi vmx).run P M.w = .ok v M.w ∧ VRel M true c v := by
  obtain ⟨d, hd, hd2, hd3⟩ := run_underlyingI M.w hi
  unfold sliceA at hc
  split at hc
  · rename_i n e es ea id off htd
    obtain ⟨rfl, eb, he⟩ := TD_array (hd3.symm.trans htd)
    split at hc
    · rename_i k hk
      split at hc
      · rename_i hcond
        split at hc
        · rename_i mB e1
          split at hc
          · rename_i hB e2
            split at hc
            · rename_i l e3
              cases hc
              have hD : M.D id := (H.dom id).2 (by simp [hk])
              obtain ⟨_, _, h6, h7⟩ := hx
              obtain rfl := h7 hD
              obtain ⟨C, el, hb, hpre, _⟩ := H.bk id k hk
              have hlen := hpre.length
              simp only [Array.length_toList] at hlen
              obtain ⟨m, hr, q1, q2, q3, q4⟩ := run_sliceBounds (P := P) hlo hhi hmx false n n n (Nat.le_refl _) (fun _ => rfl) e1 e2 e3 hcond.2
              refine ⟨_, ?_, win_rel (off := off) (es := es) (cap := n) h6 (e := el) (sz := C.size) (by simp [World.shape?, hb]) (by omega) q1 q2 q3⟩
              simp [Instr.sliceAt, hd, Instr.sureAddr, hr, run_sizeOf_el he]
            · cases hc
          · cases hc
        · cases hc
      · cases hc
    · cases hc
  · rename_i e es' ea eb id off es n htd
    obtain ⟨rfl, he⟩ := TD_slice (hd3.symm.trans htd)
    split at hc
    · rename_i hcond
      obtain ⟨rfl, hs, hcond⟩ := hcond
      split at hc
      · rename_i mB e1
        split at hc
        · rename_i hB e2
          split at hc
          · rename_i l e3
            cases hc
            have hD : M.D id := (H.dom id).2 hs
            obtain ⟨_, _, h6, h7⟩ := hx
            obtain ⟨cap, el, sz, rfl, hn, hsh, hcp⟩ := h7 hD
            obtain ⟨m, hr, q1, q2, q3, q4⟩ := run_sliceBounds (P := P) hlo hhi hmx true n cap n hn (fun _ => rfl) e1 e2 e3 hcond
            refine ⟨_, ?_, win_rel (off := off) (es := es) (cap := cap) h6 (e := el) (sz := sz) hsh hcp q1 q2 q3⟩
            simp only [Instr.sliceAt, Sem.run_bind, hd, Result.andThen_ok, Instr.slice, hr, run_sizeOf_el he, Sem.run_pure]
            by_cases hml : m = l <;> simp [hml]
          · cases hc
        · cases hc
      · cases hc
    · cases hc
  · rename_i e es ea eb n cs htd
    obtain ⟨rfl, he⟩ := TD_slice (hd3.symm.trans htd)
    split at hc
    · rename_i hcond
      split at hc
      · rename_i mB e1
        split at hc
        · rename_i hB e2
          split at hc
          · rename_i l e3
            cases hc
            obtain ⟨base, cap, rfl, hn, hcs⟩ := hx
            obtain ⟨m, hr, q1, q2, q3, q4⟩ := run_sliceBounds (P := P) hlo hhi hmx true n cap n hn (fun _ => rfl) e1 e2 e3 hcond
            refine ⟨.slice (if m = l then base else base.map (·.add (l * es))) (hB - l) (m - l), ?_, ⟨_, _, rfl, by omega, ?_⟩⟩
            · simp only [Instr.sliceAt, Sem.run_bind, hd, Result.andThen_ok, Instr.slice, hr, run_sizeOf_el he, Sem.run_pure]
            · rcases hcs with rfl | ⟨b, off, C, e', fz, rfl, hb, hfree, hpre⟩
              · left; simp
              · by_cases hml : m = l
                · left
                  have : hB - l = 0 := by omega
                  simp [this]
                · right
                  exact ⟨b, off + l * es, C, e', fz, by simp [hml, addr_add], hb, hfree, by have := (hpre.drop (l * es)).take ((hB - l) * es); rwa [List.drop_drop] at this⟩
          · cases hc
        · cases hc
      · cases hc
    · cases hc
  · rename_i e es ea eb htd
    obtain ⟨rfl, he⟩ := TD_slice (hd3.symm.trans htd)
    split at hc
    · rename_i hcond
      subst hcond
      split at hc
      · rename_i hB e2
        split at hc
        · rename_i l e3
          cases hc
          simp only [VRel] at hx
          subst hx
          obtain ⟨m, hr, q1, q2, q3, q4⟩ := run_sliceBounds (P := P) hlo hhi hmx true 0 0 0 (Nat.le_refl _) (fun _ => rfl) (mB := 0) rfl e2 e3 (fun _ => rfl)
          have hl0 : l = 0 := by omega
          have hB0 : hB = 0 := by omega
          have hm0 : m = 0 := by omega
          subst hl0 hB0 hm0
          refine ⟨.slice none 0 0, ?_, rfl⟩
          simp [Instr.sliceAt, hd, Instr.slice, hr, run_sizeOf_el he]
        · cases hc
      · cases hc
    · cases hc
  · rename_i s htd
    obtain rfl := TD_str (hd3.symm.trans htd)
    split at hc
    · rename_i hcond
      subst hcond
      split at hc
      · rename_i hB e2
        split at hc
        · rename_i l e3
          cases hc
          simp only [VRel] at hx
          subst hx
          obtain ⟨m, hr, q1, q2, q3, q4⟩ := run_sliceBounds (P := P) hlo hhi hmx false s.size s.size s.size (Nat.le_refl _) (fun _ => rfl) (mB := s.size) rfl e2 e3 (fun _ => rfl)
          refine ⟨.string (s.extract l hB), ?_, rfl⟩
          have hv0 : vmx = none := by cases vmx <;> simp_all [ORel]
          subst hv0
          simp [Instr.sliceAt, hd, Instr.slice, hr]
        · cases hc
      · cases hc
    · cases hc
  · cases hc
end Go.Am
