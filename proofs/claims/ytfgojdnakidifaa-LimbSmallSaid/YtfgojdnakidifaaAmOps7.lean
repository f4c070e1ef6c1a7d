/-
  'Am', part 9: append, make, conversions.
-/
import Derived.Test.YtfgojdnakidifaaAmOps6
import Derived.Deep.AppendSrc
set_option linter.unusedSimpArgs false
set_option linter.unusedVariables false
namespace Go.Am
variable {P : Program} {X : Ctx} {h : HP} {M : Mem}

/-! ### A block gets another number -/
def HP.move (h : HP) (id : Nat) (k : Blk) : HP := ⟨upd (upd h.bk id none) h.nt (some k), h.nt + 1⟩
def Mem.move (M : Mem) (id : Nat) : Mem := { φ := upd M.φ M.n (M.φ id), D := fun j => (M.D j ∧ j ≠ id) ∨ j = M.n, n := M.n + 1, O := M.O, w := M.w }

theorem HRel.move (H : HRel X h M) {id : Nat} {k : Blk} (hk : h.bk id = some k) : M.le (M.move id) ∧ HRel X (h.move id k) (M.move id) := by
  have hD : M.D id := (H.dom id).2 (by simp [hk])
  have hlt := H.lt id hD
  have hn : M.n = h.nt := H.n
  have hle : M.le (M.move id) := by
    refine ⟨Nat.le_succ _, fun j hj hDj => ?_, fun b C el fz hf hh => ⟨⟨fz, hh⟩, fun j hj => ?_, hf.2⟩⟩
    · have hjn : j ≠ M.n := by omega
      exact ⟨(hDj.resolve_right hjn).1, upd_other _ _ _ _ hjn, rfl⟩
    · by_cases hjn : j = M.n
      · subst hjn
        show upd M.φ M.n (M.φ id) M.n ≠ b
        rw [upd_same]; exact hf.1 id hD
      · show upd M.φ M.n (M.φ id) j ≠ b
        rw [upd_other _ _ _ _ hjn]
        exact hf.1 j (hj.resolve_right hjn).1
  refine ⟨hle, by simp [Mem.move, HP.move, hn], fun j => ?_, fun j hj => ?_, fun j kj hj => ?_, fun i j hi hj hij => ?_, H.kept, H.old, fun j hj => ?_⟩
  · show ((M.D j ∧ j ≠ id) ∨ j = M.n) ↔ (upd (upd h.bk id none) h.nt (some k) j).isSome = true
    by_cases hjn : j = h.nt
    · simp [upd, hjn, hn]
    · by_cases hji : j = id
      · simp only [upd, hji, hn]; simp
      · simp [upd, hjn, hji, hn, H.dom j]
  · show j < M.n + 1
    rcases hj with hj | hj
    · have := H.lt j hj.1; omega
    · omega
  · by_cases hjn : j = h.nt
    · subst hjn
      simp only [HP.move, upd_same, Option.some.injEq] at hj
      subst hj
      obtain ⟨C, e, h1, h2, h3⟩ := H.bk id k hk
      refine ⟨C, e, ?_, VPreR.mono hle _ _ h2, h3⟩
      show M.w.heap[upd M.φ M.n (M.φ id) h.nt]? = _
      rw [hn, upd_same]; exact h1
    · simp only [HP.move, upd_other _ _ _ _ hjn] at hj
      by_cases hji : j = id
      · subst hji; simp [upd_same] at hj
      · rw [upd_other _ _ _ _ hji] at hj
        obtain ⟨C, e, h1, h2, h3⟩ := H.bk j kj hj
        refine ⟨C, e, ?_, VPreR.mono hle _ _ h2, h3⟩
        show M.w.heap[upd M.φ M.n (M.φ id) j]? = _
        rw [hn, upd_other _ _ _ _ hjn]; exact h1
  · change upd M.φ M.n (M.φ id) i = upd M.φ M.n (M.φ id) j at hij
    by_cases hin : i = M.n <;> by_cases hjn : j = M.n
    · omega
    · subst hin
      rw [upd_same, upd_other _ _ _ _ hjn] at hij
      exact absurd (H.inj id j hD (hj.resolve_right hjn).1 hij) (Ne.symm (hj.resolve_right hjn).2)
    · subst hjn
      rw [upd_same, upd_other _ _ _ _ hin] at hij
      exact absurd (H.inj i id (hi.resolve_right hin).1 hD hij) (hi.resolve_right hin).2
    · rw [upd_other _ _ _ _ hin, upd_other _ _ _ _ hjn] at hij
      exact H.inj i j (hi.resolve_right hin).1 (hj.resolve_right hjn).1 hij
  · show (_ ≤ upd M.φ M.n (M.φ id) j ∨ X.S (upd M.φ M.n (M.φ id) j)) ∧ ¬ M.O (upd M.φ M.n (M.φ id) j)
    by_cases hjn : j = M.n
    · subst hjn; rw [upd_same]; exact H.own id hD
    · rw [upd_other _ _ _ _ hjn]; exact H.own j (hj.resolve_right hjn).1

theorem Mem.le.trans {A B C : Mem} (h : A.le B) (k : B.le C) : A.le C := by
  refine ⟨Nat.le_trans h.n k.n, fun id hid hD => ?_, fun b D e fz hf hh => ?_⟩
  · obtain ⟨h1, h2, h3⟩ := k.D id (Nat.lt_of_lt_of_le hid h.n) hD
    obtain ⟨h4, h5, h6⟩ := h.D id hid h1
    exact ⟨h4, h2.trans h5, by rw [← h5, h3, h5, h6]⟩
  · obtain ⟨⟨fz', h1⟩, h2⟩ := h.ro b D e fz hf hh
    exact k.ro b D e fz' h2 h1

/-! ### append -/
/-- The zero value of a type has as many cells as the type. -/
def zOk (P : Program) (e : TypeId) (es : Nat) : Bool :=
  match tyI P e with
  | some i => i.zero.length == es
  | none => false

def appendB (P : Program) (e es eb : Nat) (h : HP) (dst src : AV) : Option (AV × HP) :=
  match srcA es h src with
  | some (m, new) => if zOk P e es = true ∧ new.all leafOk = true then
      (match dst with
      | .nils => if m = 0 then some (.nils, h) else if m * eb ≤ 2 ^ 46 ∧ m ≤ 2 ^ 62 then some (.sl h.nt 0 es m, h.add ⟨new, false⟩) else none
      | .sl id 0 es' n => match h.bk id with
        | some k => if es = es' ∧ n * es ≤ k.cs.length ∧ (n + m) * eb ≤ 2 ^ 46 ∧ n + m ≤ 2 ^ 62 then
            some (.sl h.nt 0 es (n + m), h.move id ⟨k.cs.take (n * es) ++ new, false⟩) else none
        | none => none
      | _ => none) else none
  | none => none
def appendA (P : Program) (i i2 : TyI) (h : HP) (dst src : AV) : Option (AV × HP) :=
  match i.td, i2.td with
  | .slice e es _ eb, .slice _ _ _ _ => appendB P e es eb h dst src
  | .slice e es _ eb, .str => appendB P e es eb h dst src
  | _, _ => none

theorem srcOf (H : HRel X h M) {es : Nat} {t2 : TypeId} {a : AV} {v : Value} (hv : VRel M true a v) {m : Nat} {new : List AV} (hs : srcA es h a = some (m, new)) (hall : new.all leafOk = true)
    (hk : (∃ e', P.underlying t2 = some (.slice e')) ∨ P.underlying t2 = some .string) : ∃ l, Src P es t2 v m l M.w ∧ VRels M true new l := by
  obtain ⟨h1, h2⟩ := srcA_sound (P := P) H hv hs
  obtain ⟨l, h3, h4⟩ := h2 m (Nat.le_refl _)
  have hl := srcA_length hs
  rw [List.take_of_length_le (by omega)] at h4
  refine ⟨l, ⟨hk, fun w' => ?_, h3 M.w.drawn, h3 _, by rw [h4.length, hl], leaves_oneCell h4 hall⟩, h4⟩
  unfold srcA at hs
  split at hs
  · obtain ⟨_, _, rfl, _⟩ := hv
    split at hs <;> cases hs
    rfl
  · cases hs; simp only [VRel] at hv; subst hv; rfl
  · split at hs
    · rename_i k hk
      split at hs <;> cases hs
      obtain ⟨_, _, _, h7⟩ := hv
      obtain ⟨_, _, _, rfl, _⟩ := h7 ((H.dom _).2 (by simp [hk]))
      rfl
    · cases hs
  · split at hs <;> cases hs
    simp only [VRel] at hv; subst hv; rfl
  · cases hs

theorem drawn_of {M : Mem} (H : HRel X h M) : HRel X h { M with w := M.w.drew } := (H.ext (Ext.drawn M.w (M.w.drawn + 1))).2

/-- No room: a new row. -/
theorem append_grow (H : HRel X h M) {t t2 ty e : TypeId} {es eb : Nat} {ea : Bool} (hd : P.underlying t = some (.slice e)) (he : elI P e = some (es, eb, ea)) (hie : zOk P e es = true)
    {base : Option Addr} {n cap m : Nat} {x : Value} {old new : List AV} {lo ln : List Value} (hs : Src P es t2 x m ln M.w) (hln : VRels M true new ln)
    (ho : (Builtin.firstCells es n (.slice base n cap)).run P M.w.drew = .ok lo.toArray M.w.drew) (hlo : VRels M true old lo) (holen : old.length = n * es)
    (hg : cap < n + m) (hb : (n + m) * eb ≤ 2 ^ 46) (h62 : n + m ≤ 2 ^ 62) :
    ∃ M' v, (Builtin.append_ #[t, t2] ty #[.slice base n cap, x]).run P M.w = .ok v M'.w ∧ M.le M' ∧ M'.O = M.O ∧ HRel X (h.add ⟨old ++ new, false⟩) M' ∧ VRel M' true (.sl h.nt 0 es (n + m)) v := by
  obtain ⟨ie, hie, hze⟩ : ∃ ie, tyI P e = some ie ∧ ie.zero.length = es := by
    unfold zOk at hie
    split at hie
    · rename_i ie h; exact ⟨ie, h, by simpa using hie⟩
    · cases hie
  obtain ⟨inf, d, h1, h2, h3, h4, h5⟩ := elI_spec he
  obtain ⟨inf', d', z, k1, k2, k3, _, _, _, k7, _⟩ := tyI_spec hie
  have hzs : z.cells.size = es := by rw [← hze, k7]; simp
  have : inf' = inf := by rw [h1] at k1; cases k1; rfl
  subst this
  subst h3 h4
  have hfit : Builtin.nextslicecap (n + m) cap * inf'.bytes ≤ 281474976710656 := by
    have := Nat.mul_le_mul_right inf'.bytes (nextslicecap_le hg)
    rw [Nat.mul_assoc] at this
    omega
  have hr := run_append_grow_src (P := P) M.w t t2 ty e inf' z hd h1 k3 base n cap lo ho x m ln hs hg (by omega) hfit
  have hE := H.ext (Ext.drawn M.w (M.w.drawn + 1))
  have hcap := grownCap_ge M.w (n + m) cap e
  refine ⟨Mem.add { M with w := M.w.drew } (.cells ((lo ++ ln).toArray ++ Builtin.zeroCells z.cells (grownCap M.w (n + m) cap e - (n + m))) e (0, 0)), _, hr, ?_, rfl, ?_, ?_⟩
  · exact hE.1.trans (hE.2.add_le _)
  · refine hE.2.add (k := ⟨old ++ new, false⟩) ?_ (fun hf => by cases hf)
    have hE1 : M.le { M with w := M.w.drew } := hE.1
    have := VPreR.append (VRels.append (VRels.mono hE1 _ _ hlo) (VRels.mono hE1 _ _ hln)) (ds := []) (m := (Builtin.zeroCells z.cells (grownCap M.w (n + m) cap e - (n + m))).toList) trivial
    simpa using this
  · rw [← H.n]
    refine slice_new { M with w := M.w.drew } _ e inf'.size (n + m) _ hcap ?_
    have e1 := hlo.length
    have e2 := hs.newsLen
    simp only [Array.size_append, List.size_toArray, List.length_append, size_zeroCells, hzs]
    rw [e1, holen, e2, Nat.sub_mul, Nat.add_mul]
    have := Nat.mul_le_mul_right inf'.size hcap
    rw [Nat.add_mul] at this
    omega

/-- There is room: the block goes on under a new number. -/
theorem append_room (H : HRel X h M) {t t2 ty e : TypeId} {es eb : Nat} {ea : Bool} (hd : P.underlying t = some (.slice e)) (he : elI P e = some (es, eb, ea))
    {id : Nat} {k : Blk} (hk : h.bk id = some k) {n cap m : Nat} {x : Value} {new : List AV} {ln : List Value} (hs : Src P es t2 x m ln M.w) (hln : VRels M true new ln)
    {e' : TypeId} {sz : Nat} (hsh : M.w.shape? (M.φ id) = some (e', sz)) (hcp : cap * es ≤ sz) (hn : n * es ≤ k.cs.length) (hroom : n + m ≤ cap) :
    ∃ M' v, (Builtin.append_ #[t, t2] ty #[.slice (some ⟨M.φ id, 0, none⟩) n cap, x]).run P M.w = .ok v M'.w ∧ M.le M' ∧ M'.O = M.O ∧
      HRel X (h.move id ⟨k.cs.take (n * es) ++ new, false⟩) M' ∧ VRel M' true (.sl h.nt 0 es (n + m)) v := by
  obtain ⟨inf, d, h1, h2, h3, h4, h5⟩ := elI_spec he
  subst h3 h4
  have hD : M.D id := (H.dom id).2 (by simp [hk])
  obtain ⟨C, el, hC, hpre, hf⟩ := H.bk id k hk
  have hpl := hpre.length
  simp only [Array.length_toList] at hpl
  have hsz : sz = C.size := by simp [World.shape?, hC] at hsh; exact hsh.2.symm
  have hnl := hs.newsLen
  have hnm : n * inf.size + m * inf.size ≤ cap * inf.size := by rw [← Nat.add_mul]; exact Nat.mul_le_mul_right _ hroom
  have hst := run_storeCells_at P (M.φ id) (n * inf.size) el ln 0 C M.w hC (by omega) hs.one
  simp only [Nat.add_zero] at hst
  have hsz2 : (C.toList.take (n * inf.size) ++ ln ++ C.toList.drop (n * inf.size + ln.length)).toArray.size = C.size := by simp; omega
  have hp2 : VPreR M (k.cs.take (n * inf.size) ++ new) (C.toList.take (n * inf.size) ++ ln ++ C.toList.drop (n * inf.size + ln.length)) := by
    have h1 : VRels M true (k.cs.take (n * inf.size)) (C.toList.take (n * inf.size)) := by
      have := (hpre.take (n * inf.size)).toRels
      rwa [List.length_take, Nat.min_eq_left hn] at this
    have := VPreR.append (VRels.append h1 hln) (ds := []) (m := C.toList.drop (n * inf.size + ln.length)) trivial
    simpa using this
  have R := H.setRow hk hC (C' := (C.toList.take (n * inf.size) ++ ln ++ C.toList.drop (n * inf.size + ln.length)).toArray) hsz2
    (k' := ⟨k.cs.take (n * inf.size) ++ new, false⟩) hp2 (fun hx => by cases hx)
  have R2 := R.2.move (id := id) (k := ⟨k.cs.take (n * inf.size) ++ new, false⟩) (upd_same _ _ _)
  have hmv : HP.move { h with bk := upd h.bk id (some ⟨k.cs.take (n * inf.size) ++ new, false⟩) } id ⟨k.cs.take (n * inf.size) ++ new, false⟩ = h.move id ⟨k.cs.take (n * inf.size) ++ new, false⟩ := by
    unfold HP.move
    congr 1
    funext j
    simp only [upd]
    split
    · rfl
    · split
      · rfl
      · simp
  rw [hmv] at R2
  refine ⟨_, .slice (some ⟨M.φ id, 0, none⟩) (n + m) cap, ?_, R.1.trans R2.1, rfl, R2.2, ?_⟩
  · rcases hs.kind with ⟨e', hk'⟩ | hk' <;>
      simp [Builtin.append_, run_underlying hd, run_underlying hk', sizeOf, typeInfo, h1, hs.len, hroom, hs.cells, Addr.add_lit, hst, Mem.move]
  · rw [← H.n]
    refine ⟨rfl, rfl, Nat.lt_succ_self _, fun _ => ⟨cap, el, C.size, ?_, hroom, ?_, by omega⟩⟩
    · show _ = Value.slice (some ⟨upd M.φ M.n (M.φ id) M.n, 0, none⟩) (n + m) cap
      rw [upd_same]
    · show World.shape? (M.w.setRow _ _) (upd M.φ M.n (M.φ id) M.n) = _
      rw [upd_same, setRow_shape _ _ _ _ _ _ hC hsz2]
      simp [World.shape?, hC]

theorem appendB_sound (H : HRel X h M) {t t2 ty e : TypeId} {es eb : Nat} {ea : Bool} (hd2 : P.underlying t = some (.slice e)) (he : elI P e = some (es, eb, ea)) {a b : AV} {va vb : Value} (ha : VRel M true a va) (hb : VRel M true b vb)
    (hkind : (∃ e', P.underlying t2 = some (.slice e')) ∨ P.underlying t2 = some .string) {c : AV} {h' : HP} (hc : appendB P e es eb h a b = some (c, h')) :
    ∃ M' v, (Builtin.append_ #[t, t2] ty #[va, vb]).run P M.w = .ok v M'.w ∧ M.le M' ∧ M'.O = M.O ∧ HRel X h' M' ∧ VRel M' true c v := by
  unfold appendB at hc
  split at hc
  · rename_i m new hsrc
    split at hc
    · rename_i hcond
      obtain ⟨ln, hS, hln⟩ := srcOf (t2 := t2) H hb hsrc hcond.2 hkind
      split at hc
      · simp only [VRel] at ha
        subst ha
        split at hc
        · rename_i hm
          subst hm
          cases hc
          refine ⟨M, .slice none 0 0, ?_, Mem.le.refl M, rfl, H, rfl⟩
          obtain ⟨inf, d, h1, h2, h3, h4, h5⟩ := elI_spec he
          subst h3
          have h0 := hS.newsLen
          rcases hS.kind with ⟨e', hk'⟩ | hk' <;>
            simp [Builtin.append_, run_underlying hd2, run_underlying hk', sizeOf, typeInfo, h1, hS.len, hS.cells]
        · split at hc
          · rename_i hm hbd
            cases hc
            have := append_grow (ty := ty) H hd2 he hcond.1 (base := none) (n := 0) (cap := 0) hS hln (old := []) (lo := []) rfl rfl (by simp) (by omega) (by simpa using hbd.1) (by simpa using hbd.2)
            simpa using this
          · cases hc
      · rename_i id es' n
        split at hc
        · rename_i k hk
          split at hc
          · rename_i hcc
            obtain ⟨rfl, hn, hbb, h62⟩ := hcc
            cases hc
            have hD : M.D id := (H.dom id).2 (by simp [hk])
            have ha0 := ha
            obtain ⟨_, _, _, h7⟩ := ha
            obtain ⟨cap, e', sz, rfl, hnc, hsh, hcp⟩ := h7 hD
            by_cases hroom : n + m ≤ cap
            · exact append_room H hd2 he hk hS hln hsh (by omega) hn hroom
            · have hsrc2 : srcA es h (.sl id 0 es n) = some (n, k.cs.take (n * es)) := by
                simp only [srcA, hk]
                rw [if_pos ⟨trivial, by omega⟩]
                simp
              obtain ⟨_, hfc⟩ := srcA_sound (P := P) H ha0 hsrc2
              obtain ⟨lo, hlo, hlr⟩ := hfc n (Nat.le_refl _)
              rw [List.take_take, Nat.min_self] at hlr
              obtain ⟨M', v, q1, q2, q3, q4, q5⟩ := append_grow (ty := ty) H hd2 he hcond.1 hS hln (hlo _) hlr (by simp; omega) (by omega) hbb h62
              have hmv : (h.add ⟨k.cs.take (n * es) ++ new, false⟩).drop id = h.move id ⟨k.cs.take (n * es) ++ new, false⟩ := by
                unfold HP.move HP.drop HP.add
                congr 1
                have hne : h.nt ≠ id := by have := H.lt id hD; rw [H.n] at this; omega
                exact upd_comm _ _ _ _ _ hne
              refine ⟨M'.drop id, v, q1, q2.trans (M'.drop_le id), q3, hmv ▸ q4.drop id, VRel.mono (M'.drop_le id) _ _ q5⟩
          · cases hc
        · cases hc
      · cases hc
    · cases hc
  · cases hc

theorem append_sound (H : HRel X h M) {t t2 ty : TypeId} {i i2 : TyI} (hi : tyI P t = some i) (hi2 : tyI P t2 = some i2) {a b : AV} {va vb : Value} (ha : VRel M true a va) (hb : VRel M true b vb) {c : AV} {h' : HP}
    (hc : appendA P i i2 h a b = some (c, h')) : ∃ M' v, (Builtin.append_ #[t, t2] ty #[va, vb]).run P M.w = .ok v M'.w ∧ M.le M' ∧ M'.O = M.O ∧ HRel X h' M' ∧ VRel M' true c v := by
  obtain ⟨d, hd, hd2, hd3⟩ := run_underlyingI M.w hi
  obtain ⟨d2, hq, hq2, hq3⟩ := run_underlyingI M.w hi2
  unfold appendA at hc
  split at hc
  · rename_i e es ea eb e2 es2 ea2 eb2 h1 h2
    obtain ⟨rfl, _⟩ := TD_slice (hq3.symm.trans h2)
    obtain ⟨rfl, he⟩ := TD_slice (hd3.symm.trans h1)
    exact appendB_sound H hd2 he ha hb (.inl ⟨_, hq2⟩) hc
  · rename_i e es ea eb h1 h2
    obtain rfl := TD_str (hq3.symm.trans h2)
    obtain ⟨rfl, he⟩ := TD_slice (hd3.symm.trans h1)
    exact appendB_sound H hd2 he ha hb (.inr hq2) hc
  · cases hc
end Go.Am
