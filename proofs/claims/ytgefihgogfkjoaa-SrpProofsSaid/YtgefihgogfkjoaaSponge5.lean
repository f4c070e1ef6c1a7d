/-
  Sponge5: fill, New, Sum, put; Of and Mac as functions of bytes.
-/
import Derived.Test.YtgefihgogfkjoaaSponge4
set_option linter.unusedSimpArgs false
set_option linter.unusedVariables false
namespace Go.Proofs.Ytgefihgogfkjoaa
open Go.Am

theorem zeros_bl (n : Nat) : zerosA [AV.int .u8 0] n = bl (List.replicate n 0) := by
  unfold zerosA bl
  induction n with
  | zero => rfl
  | succ n ih => rw [List.replicate_succ, List.replicate_succ, List.flatten_cons, ih]; rfl
def zpad (n : Nat) : List Int := List.replicate ((16 - n % 16) % 16) 0
def padI (l : List Int) : List Int := l ++ zpad l.length
theorem padI_len (l : List Int) : (padI l).length % 16 = 0 := by simp [padI, zpad]; omega
theorem restI_mod {l : List Int} (h : l.length % 16 = 0) : restI l = [] := by
  unfold restI
  exact List.drop_of_length_le (by omega)
theorem restI_len (l : List Int) : (restI l).length = l.length % 16 := by unfold restI; rw [List.length_drop]; omega
theorem absorb_pad (f : Nat → Int) (l : List Int) : absorb (absorb f l) (restI l ++ zpad (restI l).length) = absorb f (padI l) := by
  have h : zpad (restI l).length = zpad l.length := by rw [restI_len]; unfold zpad; rw [show l.length % 16 % 16 = l.length % 16 by omega]
  rw [h]
  exact (absorb_app f l (zpad l.length)).symm
theorem restI_pad (l : List Int) : restI (restI l ++ zpad (restI l).length) = [] := restI_mod (by simp [zpad]; have := restI_length l; omega)

theorem fill (f : Nat → Int) (w : List Int) {bk : Nat → Option Blk} {nt id : Nat} {fx : Bool} (hid : id < nt) (hw : w.length < 16) (hb : bk id = some ⟨spL f w, fx⟩) :
    PSpec Try.prog 108 [.ptr id 0] ⟨bk, nt⟩ (fun _ h' => h'.bk id = some ⟨spL (absorb f (w ++ zpad w.length)) [], fx⟩ ∧ ∀ i, i < nt → i ≠ id → h'.bk i = bk i) := by
  refine PSpec.start [] 1000 Try.func108 (fn := Try.f108) rfl (by decide) mixed (by kernel_rfl) (by simp) ?_
  by_cases h0 : w = []
  · subst h0
    simp (disch := omega) [upd_eq, tySponge, tyBytes, hb, lenA_roB]
    exact resF_own (a := .tup []) (h' := ⟨bk, nt⟩) ⟨by show bk id = _; rw [hb]; rfl, fun _ _ _ => rfl⟩ (resRaw_nil Try.results108) (Nat.le_refl _) fun i b hb' => hb'
  · have hp : 0 < w.length := List.length_pos_iff.2 h0
    have e1 : IntKind.i64.wrap (16 - (w.length : Int)) = ((16 - w.length : Nat) : Int) := by rw [in_i64 (by omega) (by omega)]; omega
    have hz : zpad w.length = List.replicate (16 - w.length) 0 := by
      unfold zpad
      rw [show (16 - w.length % 16) % 16 = 16 - w.length by omega]
    simp (disch := omega) [upd_eq, tySponge, tyBytes, tyU8, hb, lenA_roB, hp, e1, makeA, zeros_bl, HP.add, show ((16 - w.length : Nat) : Int) ≤ 70368744177664 by omega, show ((16 - w.length : Nat) : Int) ≤ 4611686018427387904 by omega]
    have hn : (List.replicate (16 - w.length) (0 : Int)).length = 16 - w.length := by simp
    have hne : nt ≠ id := by omega
    have W := write f w (List.replicate (16 - w.length) 0) (.sl nt 0 1 (16 - w.length)) (bk := upd bk nt (some ⟨bl (List.replicate (16 - w.length) 0), true⟩)) (nt := nt + 1) (id := id) (fx := fx) (by omega) hw (by rw [hn]; omega) (by simp [upd_eq, Ne.symm hne, hb])
      (by
        have := Src.sl (l := List.replicate (16 - w.length) 0) (bk := upd bk nt (some ⟨bl (List.replicate (16 - w.length) 0), true⟩)) (nt := nt + 1) (id := id) (j := nt) (f := true) (by omega) hne (by simp [upd_eq])
        rwa [hn] at this)
    refine callT_own (first := []) (caps := []) W ?_
    rintro _ ⟨bk2, nt2⟩ hn2 ⟨h1, h2⟩
    simp only at hn2 h1 h2
    simp (disch := omega) [upd_eq]
    have hr : restI (w ++ List.replicate (16 - w.length) 0) = [] := restI_mod (by simp; omega)
    rw [hr] at h1
    refine resF_own (a := .tup []) (h' := ⟨bk2, nt2⟩) ⟨by rw [hz]; exact h1, fun i hi hne2 => ?_⟩ (resRaw_nil Try.results108) (Nat.le_refl _) fun i b hb' => hb'
    show bk2 i = bk i
    rw [h2 i (by omega) hne2, upd_other _ _ _ _ (by omega)]
theorem write_nil (f : Nat → Int) (l : List Int) (b : AV) {bk : Nat → Option Blk} {nt id : Nat} {fx : Bool} (hid : id < nt) (hl : l.length ≤ 500000000000) (hb : bk id = some ⟨w8 f ++ [.nils], fx⟩) (hs : Src b l bk nt id) :
    PSpec Try.prog 106 [.ptr id 0, b] ⟨bk, nt⟩ (fun _ h' => h'.bk id = some ⟨spL (absorb f l) (restI l), fx⟩ ∧ ∀ i, i < nt → i ≠ id → h'.bk i = bk i) := by
  have hs2 : Src b l (upd bk id (some ⟨spL f [], fx⟩)) nt id := fun bk' nt' h => hs bk' nt' fun i h1 h2 => by rw [h i h1 h2, upd_other _ _ _ _ h2]
  have W := PSpecL.mono (Q' := fun _ h' => h'.bk id = some ⟨spL (absorb f l) (restI l), fx⟩ ∧ ∀ i, i < nt → i ≠ id → h'.bk i = bk i) (write f [] l b (bk := upd bk id (some ⟨spL f [], fx⟩)) (nt := nt) (id := id) (fx := fx) hid (by decide) hl (upd_same _ _ _) hs2)
    (fun r h' h => ⟨h.1, fun i h1 h2 => by rw [h.2 i h1 h2, upd_other _ _ _ _ h2]⟩)
  refine ⟨W.1, fun X M vs hlp H hv => ?_⟩
  have H2 := hswap H (k' := ⟨spL f [], fx⟩) hb rfl (by simp) (fun C' e' h1' h2' => by
    refine VPreR.of_get fun i c hc => ?_
    by_cases hi : i < 8
    · exact h2'.get i c (by rw [List.getElem?_append_left (by simpa using hi)]; rwa [spL, List.getElem?_append_left (by simpa using hi)] at hc)
    · rw [spL, List.getElem?_append_right (by simpa using hi)] at hc
      have : i = 8 := by
        simp at hc
        have := (List.getElem?_eq_some_iff.1 hc).1
        simp at this
        omega
      subst this
      simp at hc
      subst hc
      obtain ⟨v, hv1, hv2⟩ := h2'.get 8 .nils (by rw [List.getElem?_append_right (by simp)]; simp)
      simp only [VRel] at hv2
      subst hv2
      exact ⟨_, hv1, none, 0, rfl, Nat.le_refl _, .inl rfl⟩)
  exact W.2 X M vs hlp H2 hv

/-! ### New -/
def newF (key : List Int) : Nat → Int := absorb (fun _ => 0) (padI (eightI (key.length : Nat) ++ key))
theorem build_sp : buildA ⟨9, 56, true, w8 (fun _ => 0) ++ [.nils], .struct spF⟩ [] = some (.agg (w8 (fun _ => 0) ++ [.nils])) := rfl
theorem new (k : AV) (key : List Int) (hk : k = roB key ∨ (k = .nils ∧ key = [])) (hl : key.length ≤ 400000000000) {bk : Nat → Option Blk} {nt : Nat} :
    PSpec Try.prog 99 [k] ⟨bk, nt⟩ (fun r h' => ∃ id, nt ≤ id ∧ id < h'.nt ∧ r = .ptr id 0 ∧ h'.bk id = some ⟨spL (newF key) [], true⟩ ∧ ∀ i, i < nt → h'.bk i = bk i) := by
  refine PSpec.start [] 1000 Try.func99 (fn := Try.f99) rfl (by decide) mixed (by kernel_rfl) (by simp) ?_
  have hlen : ∀ h, lenA ⟨1, 24, false, [.nils], .slice 5 1 false 1⟩ h k = some key.length := by
    intro h
    rcases hk with rfl | ⟨rfl, rfl⟩ <;> rfl
  have hsrc : ∀ bk nt id, Src k key bk nt id := by
    intro bk nt id
    rcases hk with rfl | ⟨rfl, rfl⟩
    · exact Src.ro
    · exact Src.nils
  have hno : noRef k = true := by rcases hk with rfl | ⟨rfl, rfl⟩ <;> rfl
  simp (disch := omega) [upd_eq, tySponge, tyBytes, build_sp, cellsA, hlen]
  refine callT_of (number _) rfl rfl ?_
  simp (disch := omega) [upd_eq]
  refine callT_own (first := []) (caps := []) (write_nil (fun _ => 0) (eightI key.length) (roB (eightI key.length)) (id := nt) (fx := true) (by omega) (by simp) (upd_same _ _ _) Src.ro) ?_
  rintro _ ⟨bk2, nt2⟩ hn2 ⟨h1, h2⟩
  simp only at hn2 h1 h2
  simp (disch := omega) [upd_eq]
  refine callT_own (first := []) (caps := []) (write _ _ key k (id := nt) (fx := true) (by omega) (restI_length _) (by omega) h1 (hsrc _ _ _)) ?_
  rintro _ ⟨bk3, nt3⟩ hn3 ⟨h3, h4⟩
  simp only at hn3 h3 h4
  rw [← absorb_app, ← restI_app] at h3
  simp (disch := omega) [upd_eq]
  refine callT_own (first := []) (caps := []) (fill _ _ (id := nt) (fx := true) (by omega) (restI_length _) h3) ?_
  rintro _ ⟨bk4, nt4⟩ hn4 ⟨h5, h6⟩
  simp only at hn4 h5 h6
  rw [absorb_pad] at h5
  simp (disch := omega) [upd_eq]
  refine resF_own (a := .ptr nt 0) (h' := ⟨bk4, nt4⟩) ⟨nt, Nat.le_refl _, by show nt < nt4; omega, rfl, h5, fun i hi => ?_⟩ (by rw [resRaw_tmp Try.results99]; simp [upd_eq]) (Nat.le_refl _) fun i b hb' => hb'
  show bk4 i = bk i
  rw [h6 i (by omega) (by omega), h4 i (by omega) (by omega), h2 i (by omega) (by omega), upd_other _ _ _ _ (by omega)]
end Go.Proofs.Ytgefihgogfkjoaa
