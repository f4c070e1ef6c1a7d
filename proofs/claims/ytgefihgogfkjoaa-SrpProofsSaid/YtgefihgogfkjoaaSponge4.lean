/-
  Sponge4: Clone, Write, fill.
-/
import Derived.Test.YtgefihgogfkjoaaSponge3
set_option linter.unusedSimpArgs false
set_option linter.unusedVariables false
namespace Go.Proofs.Ytgefihgogfkjoaa
open Go.Am

theorem slice_to {s b e eb : Nat} {a ea : Bool} {z : List AV} {h : HP} {q : IntKind} (l : List Int) (k : Int) (h0 : 0 ≤ k) (hk : k.toNat ≤ l.length) :
    sliceA ⟨s, b, a, z, .slice e 1 ea eb⟩ h (roB l) none (some (.int q k)) none = some (roB (l.take k.toNat)) := by
  have h1 : k ≤ (l.length : Nat) := by omega
  have h2 : min k.toNat l.length = k.toNat := by omega
  simp [sliceA, roB, h0, h1, bl_take, h2]
theorem slice_from {s b e eb : Nat} {a ea : Bool} {z : List AV} {h : HP} {q : IntKind} (l : List Int) (k : Int) (h0 : 0 ≤ k) (hk : k.toNat ≤ l.length) :
    sliceA ⟨s, b, a, z, .slice e 1 ea eb⟩ h (roB l) (some (.int q k)) none none = some (roB (l.drop k.toNat)) := by
  have h1 : k ≤ (l.length : Nat) := by omega
  simp [sliceA, roB, h0, h1, bl_drop, bl_take, List.take_of_length_le]
theorem store_sl {s b : Nat} {a : Bool} {z : List AV} {td : TD} {bk : Nat → Option Blk} {nt id off i o es n : Nat} (hs : s = 1) : storeA ⟨s, b, a, z, td⟩ ⟨bk, nt⟩ (.ptr id off) (.sl i o es n) = blkT (bk id) fun k => if off < k.cs.length then some ⟨upd bk id (some ⟨k.cs.set off (.sl i o es n), k.fix⟩), nt⟩ else none := by
  subst hs
  simp only [storeA, blkT]
  cases bk id <;> simp [leafOk]
theorem store_nils {s b : Nat} {a : Bool} {z : List AV} {td : TD} {bk : Nat → Option Blk} {nt id off : Nat} (hs : s = 1) : storeA ⟨s, b, a, z, td⟩ ⟨bk, nt⟩ (.ptr id off) .nils = blkT (bk id) fun k => if off < k.cs.length then some ⟨upd bk id (some ⟨k.cs.set off .nils, k.fix⟩), nt⟩ else none := by
  subst hs
  simp only [storeA, blkT]
  cases bk id <;> simp [leafOk]
theorem store_roB {s b : Nat} {a : Bool} {z : List AV} {td : TD} {bk : Nat → Option Blk} {nt id off : Nat} {l : List Int} (hs : s = 1) : storeA ⟨s, b, a, z, td⟩ ⟨bk, nt⟩ (.ptr id off) (roB l) = blkT (bk id) fun k => if off < k.cs.length then some ⟨upd bk id (some ⟨k.cs.set off (roB l), k.fix⟩), nt⟩ else none := by
  subst hs
  exact store_ro
theorem build0b {bk : Nat → Option Blk} {nt : Nat} : buildSliceA Try.prog ⟨1, 24, false, [.nils], .slice 5 1 false 1⟩ ⟨bk, nt⟩ 0 [] = some (.sl nt 0 1 0, ⟨upd bk nt (some ⟨bl [], true⟩), nt + 1⟩) := by
  simp only [buildSliceA, tyU8]
  rfl
theorem clone_nil (cap : Nat) : ASpec Try.prog 44 [.exact (.slice none 0 cap)] .nils := by
  refine ASpec.start 1000 Try.func44 (fn := Try.f44) rfl (by decide) mixed (by kernel_rfl) (by simp) ?_
  have h : binA Try.prog .eql 22 (.exact (.slice none 0 cap)) .nils = some (.bool true) := by
    have : isSliceT Try.prog 22 = true := by kernel_rfl
    simp [binA, this]
  simp (disch := omega) [ini, upd_eq, h, resA_L Try.results44, view, view1, noRef]
theorem clone (a : AV) (l : List Int) {bk : Nat → Option Blk} {nt : Nat} (h0 : binA Try.prog .eql 22 a .nils = some (.bool false)) (hs : ∀ h, srcA 1 h a = some (l.length, bl l)) (hl : l.length ≤ 1000000000000) :
    PSpec Try.prog 44 [a] ⟨bk, nt⟩ (fun r h' => ∃ j, nt ≤ j ∧ j < h'.nt ∧ r = .sl j 0 1 l.length ∧ h'.bk j = some ⟨bl l, false⟩ ∧ ∀ i, i < nt → h'.bk i = bk i) := by
  refine PSpec.start [] 1000 Try.func44 (fn := Try.f44) rfl (by decide) mixed (by kernel_rfl) (by simp) ?_
  simp (disch := omega) [upd_eq, h0, tyBytes, build0b]
  simp (disch := omega) [upd_eq, appendA, appendB, hs, zOkU8, HP.move, show l.length ≤ 70368744177664 by omega, show l.length ≤ 4611686018427387904 by omega]
  refine resF_own (a := .sl (nt + 1) 0 1 l.length) (h' := ⟨fun i => if i = nt + 1 then some ⟨bl l, false⟩ else if i < nt then bk i else none, nt + 2⟩) ⟨nt + 1, by omega, by simp, rfl, by simp, fun i hi => by simp [hi]; omega⟩ (by rw [resRaw_tmp Try.results44]; simp [upd_eq]) (by simp) ?_
  intro i b hb
  simp only [upd_eq] at hb ⊢
  by_cases h1 : i = nt + 1
  · simpa [h1] using hb
  · by_cases h2 : i < nt
    · simpa [h1, h2, show i ≠ nt by omega] using hb
    · simp [h1, h2] at hb
theorem clone_ro {w : List Int} (hw : w ≠ []) : binA Try.prog .eql 22 (roB w) .nils = some (.bool false) := by
  have : isSliceT Try.prog 22 = true := by kernel_rfl
  cases w with
  | nil => exact (hw rfl).elim
  | cons b w => simp [binA, this, roB, bl]
theorem clone_ex (a : Addr) (cap : Nat) : binA Try.prog .eql 22 (.exact (.slice (some a) 0 cap)) .nils = some (.bool false) := by
  have : isSliceT Try.prog 22 = true := by kernel_rfl
  simp [binA, this]

/-- Bytes that a callee may read, whatever new blocks there are, whatever block id is. -/
def Src (b : AV) (l : List Int) (bk : Nat → Option Blk) (nt id : Nat) : Prop := ∀ bk' nt', (∀ i, i < nt → i ≠ id → bk' i = bk i) → srcA 1 ⟨bk', nt'⟩ b = some (l.length, bl l)
theorem Src.ro {l : List Int} {bk : Nat → Option Blk} {nt id : Nat} : Src (roB l) l bk nt id := fun bk' nt' _ => srcA_roB _ l
theorem Src.nils {bk : Nat → Option Blk} {nt id : Nat} : Src .nils [] bk nt id := fun bk' nt' _ => rfl
theorem Src.sl {l : List Int} {bk : Nat → Option Blk} {nt id j : Nat} {f : Bool} (hj : j < nt) (hne : j ≠ id) (hb : bk j = some ⟨bl l, f⟩) : Src (.sl j 0 1 l.length) l bk nt id := fun bk' nt' h => srcA_sl1 (f := f) (by rw [h j hj hne, hb]) (by simp)
theorem frz_st {h : HP} {j : Nat} {tm : Nat → AV} {l : List (Nat × AV)} (hl : ∀ p ∈ l, p.2 = tm p.1) : ∀ t, Frz h j (tm t) (lk .dead l t) := by
  intro t
  rcases lk_mem (d := AV.dead) (l := l) (t := t) with ⟨h1, _⟩ | ⟨p, hp, rfl, h2⟩
  · exact .inr (.inl h1)
  · exact .inl (h2.trans (hl p hp))
theorem frz_bk {h : HP} {j : Nat} {bk' : Nat → Option Blk} (H : ∀ i b, bk' i = some b → ∃ b0, h.bk i = some b0 ∧ b.fix = b0.fix ∧ FrzL h j b0.cs b.cs) : ∀ i b, bk' i = some b → ∃ b0, h.bk i = some b0 ∧ b.fix = b0.fix ∧ FrzL h j b0.cs b.cs := H
theorem frzL_last {h : HP} {j : Nat} {a c : AV} (hf : Frz h j a c) : ∀ {cs : List AV}, FrzL h j (cs ++ [a]) (cs ++ [c])
  | [] => ⟨c, [], rfl, hf, rfl⟩
  | x :: cs => ⟨x, cs ++ [c], rfl, .inl rfl, frzL_last hf⟩
theorem goT_spfreeze {P : Program} {fn : FnE} {todo : List Item} {r : RV} {tm : Nat → AV} {bk bk1 : Nat → Option Blk} {nt nt1 id : Nat} {f : Nat → Int} {c1 : AV} {v : List Int} {fx : Bool} {L : List (Nat × AV)} {t1 t2 t3} (j : Nat) (hid : id < nt) (hj : nt ≤ j)
    (h1 : bk1 id = some ⟨w8 f ++ [c1], fx⟩) (hfz : Frz ⟨bk1, nt1⟩ j c1 (roB v)) (ho : ∀ i, i < nt → i ≠ id → bk1 i = bk i) (hl : ∀ p ∈ L, p.2 = tm p.1)
    (h : goT P fn todo r ⟨⟩ ⟨⟩ ⟨⟩ (stH L ⟨fun i => if i = id then some ⟨spL f v, fx⟩ else if i < nt then bk i else none, nt1⟩)) : goT P fn todo r t1 t2 t3 ⟨tm, ⟨bk1, nt1⟩⟩ := by
  refine goT_freeze (τ := stH L ⟨fun i => if i = id then some ⟨spL f v, fx⟩ else if i < nt then bk i else none, nt1⟩) j ?_ (Nat.le_refl _) (frz_st hl) ?_ h
  · show (if j = id then _ else if j < nt then _ else none) = none
    rw [if_neg (by omega), if_neg (by omega)]
  · intro i b hb
    have hb : (if i = id then some ⟨spL f v, fx⟩ else if i < nt then bk i else none) = some b := hb
    by_cases hi : i = id
    · rw [if_pos hi] at hb
      cases hb
      rw [hi]
      exact ⟨_, h1, rfl, frzL_last hfz⟩
    · rw [if_neg hi] at hb
      by_cases hi2 : i < nt
      · rw [if_pos hi2] at hb
        exact ⟨b, (ho i hi2 hi).trans hb, rfl, frzL_refl _⟩
      · rw [if_neg hi2] at hb; cases hb
/-- What a sponge's block is; 'c' stands where the bytes wait. -/
theorem write0 (f : Nat → Int) (w l : List Int) (b c : AV) {bk : Nat → Option Blk} {nt id : Nat} {fx : Bool} (hid : id < nt) (hw : w.length < 16) (hl : l.length ≤ 500000000000) (hb : bk id = some ⟨w8 f ++ [c], fx⟩) (hs : Src b l bk nt id)
    (hc : (∃ n, c = .exact (.slice none 0 n) ∧ w = []) ∨ (binA Try.prog .eql 22 c .nils = some (.bool false) ∧ ∀ h, srcA 1 h c = some (w.length, bl w))) :
    PSpec Try.prog 106 [.ptr id 0, b] ⟨bk, nt⟩ (fun _ h' => h'.bk id = some ⟨spL (absorb f (w ++ l)) (restI (w ++ l)), fx⟩ ∧ ∀ i, i < nt → i ≠ id → h'.bk i = bk i) := by
  refine PSpec.start [] 1000 Try.func106 (fn := Try.f106) rfl (by decide) mixed (by kernel_rfl) (by simp) ?_
  have g8 : (w8 f ++ [c])[8]? = some c := by rw [List.getElem?_append_right (by simp)]; simp
  have s8 : ∀ a, (w8 f ++ [c]).set 8 a = w8 f ++ [a] := fun a => by rw [List.set_append_right _ _ (by simp)]; simp
  simp (disch := omega) [upd_eq, tySponge, tyBytes, hb, g8]
  rcases hc with ⟨n, rfl, rfl⟩ | ⟨hc1, hc2⟩
  refine callT_of (clone_nil n) rfl rfl ?_
  have hs1 := hs bk nt (fun i _ _ => rfl)
  have hne2 : id ≠ nt := by omega
  by_cases hl0 : l = []
  subst hl0
  simp (disch := omega) [upd_eq, tySponge, tyBytes, appendA, appendB, hs1, zOkU8, hb, store_nils, s8]
  refine goT_spfreeze (L := [(0, .ptr id 0), (4, .fn (.func 112) [.ptr id 0] [])]) (f := f) (fx := fx) (bk := bk) (nt := nt) (v := []) (c1 := .nils) nt hid (Nat.le_refl _) (by simp [upd_eq]) (.inr (.inr (.inl ⟨rfl, rfl⟩))) (by intro i _ hi; simp [upd_eq, hi]) (by simp [upd_eq]) ?_
  obtain ⟨NT, hNT, hNT2⟩ : ∃ NT, NT = nt ∧ nt ≤ NT := ⟨_, rfl, by omega⟩
  conv in (stH _ _) => rw [show ∀ bk' : Nat → Option Blk, HP.mk bk' (nt) = ⟨bk', NT⟩ from fun _ => by rw [hNT]]
  have hVl : (([] : List Int)).length ≤ 600000000000 := by simp
  generalize ([] : List Int) = V at hVl ⊢
  clear hNT
  rotate_left
  have hm : l.length ≠ 0 := fun h => hl0 (List.eq_nil_of_length_eq_zero h)
  simp (disch := omega) [upd_eq, tySponge, tyBytes, appendA, appendB, hs1, hm, zOkU8, HP.add, show l.length ≤ 70368744177664 by omega, show l.length ≤ 4611686018427387904 by omega, hb, hne2, store_sl, s8]
  refine goT_spfreeze (L := [(0, .ptr id 0), (4, .fn (.func 112) [.ptr id 0] [])]) (f := f) (fx := fx) (bk := bk) (nt := nt) (v := l) (c1 := .sl nt 0 1 l.length) nt hid (Nat.le_refl _) (by simp [upd_eq])
    (.inr (.inr (.inr ⟨0, 1, l.length, bl l, rfl, srcA_sl1 (f := false) (by simp [upd_eq, Ne.symm hne2]) (by simp), noRefs_bl _, rfl⟩))) (by intro i h1 hi; simp [upd_eq, hi, show i ≠ nt by omega]) (by simp [upd_eq]) ?_
  obtain ⟨NT, hNT, hNT2⟩ : ∃ NT, NT = nt + 1 ∧ nt ≤ NT := ⟨_, rfl, by omega⟩
  conv in (stH _ _) => rw [show ∀ bk' : Nat → Option Blk, HP.mk bk' (nt + 1) = ⟨bk', NT⟩ from fun _ => by rw [hNT]]
  have hVl : (l).length ≤ 600000000000 := by omega
  generalize l = V at hVl ⊢
  clear hNT
  rotate_left
  refine callT_own (clone c w hc1 hc2 (by omega)) ?_
  rintro r ⟨bk1, nt1⟩ hn ⟨j, hj1, hj2, rfl, hj3, hj4⟩
  simp only at hn hj1 hj2 hj3 hj4
  have hs1 := hs bk1 nt1 (fun i h _ => hj4 i h)
  have hid1 : bk1 id = some ⟨w8 f ++ [c], fx⟩ := by rw [hj4 id hid, hb]
  have hne : id ≠ j := by omega
  have hne2 : id ≠ nt1 := by omega
  simp (disch := omega) [upd_eq, tySponge, tyBytes, appendA, appendB, hs1, hj3, zOkU8, HP.move, bl_take, bl_app, show w.length + l.length ≤ 70368744177664 by omega, show w.length + l.length ≤ 4611686018427387904 by omega, hid1, hne, hne2, store_sl, s8]
  refine goT_spfreeze (L := [(0, .ptr id 0), (4, .fn (.func 112) [.ptr id 0] [])]) (f := f) (fx := fx) (bk := bk) (nt := nt) (v := w ++ l) (c1 := .sl nt1 0 1 (w.length + l.length)) nt1 hid hn (by simp [upd_eq])
    (.inr (.inr (.inr ⟨0, 1, w.length + l.length, bl (w ++ l), rfl, srcA_sl1 (f := false) (by simp [upd_eq, Ne.symm hne2]) (by simp), noRefs_bl _, by simp [roB]⟩))) (by intro i h1 hi; simp [upd_eq, hi, show i ≠ nt1 by omega, show i ≠ j by omega, hj4 i h1]) (by simp [upd_eq]) ?_
  obtain ⟨NT, hNT, hNT2⟩ : ∃ NT, NT = nt1 + 1 ∧ nt ≤ NT := ⟨_, rfl, by omega⟩
  conv in (stH _ _) => rw [show ∀ bk' : Nat → Option Blk, HP.mk bk' (nt1 + 1) = ⟨bk', NT⟩ from fun _ => by rw [hNT]]
  have hVl : (w ++ l).length ≤ 600000000000 := by simp; omega
  generalize w ++ l = V at hVl ⊢
  clear hNT
  all_goals
    refine goT_downS (X := (Nat → Int) × List Int × Nat) (fun x => x.2.1.length) (fun x => stH [(0, .ptr id 0), (4, .fn (.func 112) [.ptr id 0] [])] ⟨fun i => if i = id then some ⟨spL x.1 x.2.1, fx⟩ else if i < nt then bk i else none, x.2.2⟩)
      (fun x => absorb x.1 x.2.1 = absorb f V ∧ restI x.2.1 = restI V ∧ nt ≤ x.2.2 ∧ x.2.1.length ≤ 600000000000) ?_ (f, V, NT) ⟨rfl, rfl, hNT2, hVl⟩ ?_
    · rintro ⟨g, r, n⟩ ⟨h1, h2, h3, h4⟩ IH
      simp only at h1 h2 h3 h4 IH ⊢
      refine goT_round mixed 100 ?_
      by_cases h16 : 16 ≤ r.length
      · have ht := fun h => slice_to (s := 1) (b := 24) (a := false) (z := [.nils]) (e := 5) (eb := 1) (ea := false) (q := .i64) (h := h) r 16 (by omega) (by simpa using h16)
        have hf := fun h => slice_from (s := 1) (b := 24) (a := false) (z := [.nils]) (e := 5) (eb := 1) (ea := false) (q := .i64) (h := h) r 16 (by omega) (by simpa using h16)
        rw [show (16 : Int).toNat = 16 from rfl] at ht hf
        simp (disch := omega) [stH_eq, upd_eq, tySponge, tyBytes, lenA_roB, show (16 : Int) ≤ r.length by omega, ht]
        refine callT_own (first := [.ptr id 0]) (caps := []) (take g r (r.take 16) (by simp; omega) (fx := fx) (by simp)) ?_
        rintro _ ⟨bk2, nt2⟩ hn2 he
        injection he with he _
        subst he
        simp only at hn2
        have e1 := blockI_take (f := g) h16
        simp (disch := omega) [upd_eq, tySponge, tyBytes, hf, store_roB, e1]
        refine IH (blockI g r, r.drop 16, nt2) _ ⟨by simp only; rw [← absorb_ge h16]; exact h1, by simp only; rw [← restI_ge h16]; exact h2, by simp only; omega, by simp; omega⟩ (by simp; omega) ?_
        refine Am.Sub.of (by simp) (by simp [upd_eq]) fun i b hb' => ?_
        simp only [upd_eq] at hb' ⊢
        by_cases hi : i = id
        · subst hi
          have : (spL (blockI g r) r).set 8 (roB (r.drop 16)) = spL (blockI g r) (r.drop 16) := spL_set8
          simpa [this] using hb'
        · simpa [hi] using hb'
      · have hlt : r.length < 16 := by omega
        rw [absorb_lt hlt] at h1
        rw [restI_lt hlt] at h2
        simp (disch := omega) [stH_eq, upd_eq, tySponge, tyBytes, lenA_roB, show ¬ (16 : Int) ≤ r.length by omega]
        refine resF_own (a := .tup []) (h' := ⟨fun i => if i = id then some ⟨spL g r, fx⟩ else if i < nt then bk i else none, n⟩) ⟨by simp [h1, h2], fun i hi hne => by simp [hi, hne]⟩ (resRaw_nil Try.results106) (Nat.le_refl _) fun i b hb' => hb'
    · exact Am.Sub.of (by simp [stH]) (by simp [stH, lk]) fun i b hb' => hb'
theorem hswap {X : Ctx} {h : HP} {M : Mem} (H : HRel X h M) {id : Nat} {k k' : Blk} (hk : h.bk id = some k) (hf : k'.fix = k.fix) (hl : k'.cs.length = k.cs.length) (hr : ∀ C e, M.w.heap[M.φ id]? = some (.cells C e (0, 0)) → VPreR M k.cs C.toList → VPreR M k'.cs C.toList) :
    HRel X { h with bk := upd h.bk id (some k') } M := by
  refine ⟨H.n, fun j => ?_, H.lt, fun j kj hj => ?_, H.inj, H.kept, H.old, H.own⟩
  · rw [H.dom j]
    by_cases hji : j = id
    · subst hji; simp [upd_eq, hk]
    · simp [upd_eq, hji]
  · by_cases hji : j = id
    · subst hji
      simp only [upd_same, Option.some.injEq] at hj
      subst hj
      obtain ⟨C, e, h1, h2, h3⟩ := H.bk j k hk
      exact ⟨C, e, h1, hr C e h1 h2, fun hx => by rw [hl]; exact h3 (by rw [← hf]; exact hx)⟩
    · simp only [upd_other _ _ _ _ hji] at hj
      exact H.bk j kj hj
theorem write (f : Nat → Int) (w l : List Int) (b : AV) {bk : Nat → Option Blk} {nt id : Nat} {fx : Bool} (hid : id < nt) (hw : w.length < 16) (hl : l.length ≤ 500000000000) (hb : bk id = some ⟨spL f w, fx⟩) (hs : Src b l bk nt id) :
    PSpec Try.prog 106 [.ptr id 0, b] ⟨bk, nt⟩ (fun _ h' => h'.bk id = some ⟨spL (absorb f (w ++ l)) (restI (w ++ l)), fx⟩ ∧ ∀ i, i < nt → i ≠ id → h'.bk i = bk i) := by
  by_cases h0 : w = []
  case neg => exact write0 f w l b (roB w) hid hw hl hb hs (.inr ⟨clone_ro h0, fun h => srcA_roB h w⟩)
  subst h0
  have key : ∀ v : Value, ∀ base cap, v = .slice base 0 cap → PSpec Try.prog 106 [.ptr id 0, b] ⟨upd bk id (some ⟨w8 f ++ [.exact v], fx⟩), nt⟩ (fun _ h' => h'.bk id = some ⟨spL (absorb f ([] ++ l)) (restI ([] ++ l)), fx⟩ ∧ ∀ i, i < nt → i ≠ id → h'.bk i = bk i) := by
    intro v base cap hv
    have hs2 : Src b l (upd bk id (some ⟨w8 f ++ [.exact v], fx⟩)) nt id := fun bk' nt' h => hs bk' nt' fun i h1 h2 => by rw [h i h1 h2, upd_other _ _ _ _ h2]
    have hq : ∀ (r : AV) (h' : HP), (h'.bk id = some ⟨spL (absorb f ([] ++ l)) (restI ([] ++ l)), fx⟩ ∧ ∀ i, i < nt → i ≠ id → h'.bk i = upd bk id (some ⟨w8 f ++ [.exact v], fx⟩) i) → (h'.bk id = some ⟨spL (absorb f ([] ++ l)) (restI ([] ++ l)), fx⟩ ∧ ∀ i, i < nt → i ≠ id → h'.bk i = bk i) :=
      fun r h' h => ⟨h.1, fun i h1 h2 => by rw [h.2 i h1 h2, upd_other _ _ _ _ h2]⟩
    refine PSpecL.mono (write0 f [] l b (.exact v) hid hw hl (upd_same _ _ _) hs2 ?_) hq
    subst hv
    cases base with
    | none => exact .inl ⟨cap, rfl, rfl⟩
    | some a => exact .inr ⟨clone_ex a cap, fun h => rfl⟩
  refine ⟨(key (.slice none 0 0) none 0 rfl).1, fun X M vs hlp H hv => ?_⟩
  have hD : M.D id := (H.dom id).2 (by simp [hb])
  obtain ⟨C, e, h1, h2, h3⟩ := H.bk id _ hb
  obtain ⟨v, hv1, hv2⟩ := h2.get 8 (roB []) spL_8
  obtain ⟨base, cap, hv3, _⟩ := hv2
  have H2 := hswap H (k' := ⟨w8 f ++ [.exact v], fx⟩) hb rfl (by simp) (fun C' e' h1' h2' => by
    rw [h1] at h1'
    cases h1'
    refine VPreR.of_get fun i c hc => ?_
    by_cases hi : i < 8
    · exact h2'.get i c (by rw [spL, List.getElem?_append_left (by simpa using hi)]; rwa [List.getElem?_append_left (by simpa using hi)] at hc)
    · rw [List.getElem?_append_right (by simpa using hi)] at hc
      have : i = 8 := by
        simp at hc
        have := (List.getElem?_eq_some_iff.1 hc).1
        simp at this
        omega
      subst this
      simp at hc
      subst hc
      exact ⟨v, hv1, rfl⟩)
  exact (key v base cap hv3).2 X M vs hlp H2 hv
end Go.Proofs.Ytgefihgogfkjoaa
