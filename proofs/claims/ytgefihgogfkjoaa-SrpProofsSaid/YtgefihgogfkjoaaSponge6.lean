/-
  Sponge6: Sum, put; Of and Mac as functions of bytes.
-/
import Derived.Test.YtgefihgogfkjoaaSponge5
set_option linter.unusedSimpArgs false
set_option linter.unusedVariables false
namespace Go.Proofs.Ytgefihgogfkjoaa
open Go.Am

/-- A sum. -/
def smA (l : List Int) : AV := .agg (bl l)
@[simp] theorem flats_bl : ∀ l : List Int, flats (bl l) = true
  | [] => rfl
  | b :: l => by
    have := flats_bl l
    simp only [bl] at this
    simp [bl, flats, u8A, flat, this]
@[simp] theorem noRef_smA (l : List Int) : noRef (smA l) = true := by simp [smA, noRef]
@[simp] theorem flat_smA (l : List Int) : flat (smA l) = true := by simp [smA, flat]
@[simp] theorem cellsA_smA (l : List Int) : cellsA (smA l) = some (bl l) := (rfl)
@[simp] theorem refsLt_smA (m : Nat) (l : List Int) : refsLt m (smA l) = true := by simp [smA, refsLt]
@[simp] theorem ren_smA (ρ : Nat → Nat) (l : List Int) : ren ρ (smA l) = smA l := by simp [smA, ren]
@[simp] theorem view_smA (h : HP) (l : List Int) : view h (smA l) = smA l := by simp [smA, view]
theorem segA_bl {l : List Int} (h : l.length = 16) : segA (bl l) 0 16 = some (smA l) := by simp [segA, smA, h, List.take_of_length_le]
theorem putSeg_bl {l m : List Int} (h : l.length = m.length) : putSeg (bl l) 0 (bl m) = some (bl m) := putSeg_all (by simp [h])
theorem store_smA {b : Nat} {a : Bool} {z : List AV} {td : TD} {bk : Nat → Option Blk} {nt id off : Nat} {l : List Int} (h : l.length = 16) : storeA ⟨16, b, a, z, td⟩ ⟨bk, nt⟩ (.ptr id off) (smA l) = blkT (bk id) fun k => (putSeg k.cs off (bl l)).map fun cs => ⟨upd bk id (some ⟨cs, k.fix⟩), nt⟩ :=
  store_agg (by simp [h]) (by simp)
theorem build_sp2 {f : Nat → Int} {w : List Int} : buildA ⟨9, 56, true, w8 (fun _ => 0) ++ [.nils], .struct spF⟩ [(0, ws f), (1, roB w)] = some (.agg (spL f w)) := rfl
def finF (g : Nat → Int) : Nat → Int := mixI (upd g 7 (x32 (g 7) 1))
def sumW (h : Nat → Int) (i : Nat) : Int := IntKind.u8.wrap (h (i / 4) / 2 ^ (8 * (i % 4)))
def sumB (h : Nat → Int) : List Int := (List.range 16).map (sumW h)
@[simp] theorem sumB_length (h : Nat → Int) : (sumB h).length = 16 := by simp [sumB]
def sumS (f : Nat → Int) (w : List Int) : List Int := sumB (finF (absorb f (padI (w ++ [128]))))
@[simp] theorem sumS_length (f : Nat → Int) (w : List Int) : (sumS f w).length = 16 := by simp [sumS]
def sumAt (h : Nat → Int) (i : Nat) : AV := .int .u8 (sumW h i)
theorem sumAt_bl (h : Nat → Int) : famL (sumAt h) 16 = bl (sumB h) := bl_famL _ _
theorem zero16 : bl z16 = famL (fun _ => AV.int .u8 0) 16 := rfl
theorem mixL_len16 {f g : Nat → AV} {i : Nat} : (mixL f g 16 i).length = 16 := mixL_length _ _ _ _

theorem resRaw_cell {P : Program} {fn : Func} {σ : AS} {t : Tmp} {ty : TypeId} (h : fn.results = #[.cell t ty]) : resRaw P fn σ = (tyI P ty).bind fun i => loadA i σ.h (σ.tm t) := by
  simp only [resRaw, h, resVars, resVar, withTy]
  cases tyI P ty with
  | none => rfl
  | some i =>
    simp only [Option.bind_some]
    cases loadA i σ.h (σ.tm t) <;> rfl
theorem sum (f : Nat → Int) (w : List Int) {bk : Nat → Option Blk} {nt id : Nat} {fx : Bool} (hid : id < nt) (hw : w.length < 16) (hb : bk id = some ⟨spL f w, fx⟩) :
    PSpec Try.prog 109 [.ptr id 0] ⟨bk, nt⟩ (fun r h' => r = smA (sumS f w) ∧ ∀ i, i < nt → h'.bk i = bk i) := by
  refine PSpec.start [] 1000 Try.func109 (fn := Try.f109) rfl (by decide) mixed (by kernel_rfl) (by simp) ?_
  have hne : id ≠ nt := by omega
  simp (disch := omega) [upd_eq, tySum, tySponge, tyWords, tyBytes, hne, hb, build_sp2, cellsA, build1b]
  refine callT_own (first := []) (caps := []) (write f w [128] (.sl (nt + 2) 0 1 1) (id := nt + 1) (fx := true) (by omega) hw (by decide) (by simp [upd_eq]) (Src.sl (l := [128]) (f := true) (j := nt + 2) (by omega) (by omega) (by simp [upd_eq]))) ?_
  rintro _ ⟨bk2, nt2⟩ hn2 ⟨h1, h2⟩
  simp only at hn2 h1 h2
  simp (disch := omega) [upd_eq]
  refine callT_own (first := []) (caps := []) (fill _ _ (id := nt + 1) (fx := true) (by omega) (restI_length _) h1) ?_
  rintro _ ⟨bk3, nt3⟩ hn3 ⟨h3, h4⟩
  simp only at hn3 h3 h4
  rw [absorb_pad] at h3
  have hz : bk3 nt = some ⟨bl z16, true⟩ := by
    rw [h4 nt (by omega) (by omega), h2 nt (by omega) (by omega)]; simp [upd_eq, show nt ≠ nt + 1 + 1 by omega]
  have ho : ∀ i, i < nt → bk3 i = bk i := fun i hi => by
    rw [h4 i (by omega) (by omega), h2 i (by omega) (by omega)]; simp [upd_eq, show i ≠ nt by omega, show i ≠ nt + 1 by omega, show i ≠ nt + 2 by omega]
  obtain ⟨g, hg⟩ : ∃ g, g = absorb f (padI (w ++ [128])) := ⟨_, rfl⟩
  rw [← hg] at h3
  have g7 : (spL g [])[7]? = some (.int .u32 (g 7)) := spL_w (by decide)
  have s7 : ∀ v, (spL g []).set 7 (.int .u32 v) = spL (upd g 7 v) [] := fun v => spL_setw (by decide)
  simp (disch := omega) [upd_eq, tySum, tySponge, tyWords, tyU32, h3, g7, s7, store_int, x32_eq]
  refine callT_of (mix _) rfl rfl ?_
  have hm : mixI (upd g 7 (x32 (g 7) 1)) = finF g := rfl
  rw [hm]
  obtain ⟨F, hF⟩ : ∃ F, F = finF g := ⟨_, rfl⟩
  rw [← hF]
  simp (disch := omega) [upd_eq, tySum, tySponge, tyWords, tyU32, h3]
  refine goT_downS (X := Nat) (fun i => 16 - i) (fun i => stH [(2, .ptr nt 0), (3, .ptr (nt + 1) 0), (4, .ptr nt3 0), (38, .int .i64 (i : Nat))] ⟨fun j => if j = nt3 then some ⟨mixL (sumAt F) (fun _ => .int .u8 0) 16 i, true⟩ else if j = nt + 1 then some ⟨spL F [], true⟩ else if j = nt then some ⟨bl z16, true⟩ else if j < nt then bk j else none, nt3 + 1⟩)
    (fun i => i ≤ 16) ?_ 0 (by decide) ?_
  · intro i hi IH
    refine goT_round mixed 100 ?_
    have n1 : nt + 1 ≠ nt3 := by omega
    have n2 : nt ≠ nt3 := by omega
    by_cases h16 : i = 16
    · subst h16
      have ha : mixL (sumAt F) (fun _ => AV.int .u8 0) 16 16 = bl (sumB F) := by rw [mixL_all, sumAt_bl]
      have sg : segA (bl (sumB F)) 0 16 = some (smA (sumB F)) := segA_bl (by simp)
      have ps : putSeg (bl z16) 0 (bl (sumB F)) = some (bl (sumB F)) := putSeg_bl (by simp)
      simp (disch := omega) [stH_eq, upd_eq, tySum, ha, sg, store_smA (l := sumB F) (by simp), ps, n1, n2]
      refine resF_own (a := smA (sumB F)) (h' := ⟨fun j => if j < nt then bk j else none, nt3 + 1⟩) ⟨by rw [hF, hg]; rfl, fun i hi => by simp [hi]⟩ ?_ (Nat.le_refl _) ?_
      · rw [resRaw_cell Try.results109]
        simp (disch := omega) [upd_eq, tySum, sg]
      · intro j b hb'
        simp only [upd_eq] at hb' ⊢
        by_cases hj : j < nt
        · simp only [hj, if_true] at hb'
          simp [hb', hj, show j ≠ nt by omega, show j ≠ nt3 by omega, show j ≠ nt + 1 by omega]
        · simp [hj] at hb'
    · have hi16 : i < 16 := by omega
      have q1 : ((i : Int) / 4).toNat = i / 4 := by omega
      have w1 : IntKind.i64.wrap ((i : Int) / 4) = (i : Int) / 4 := in_i64 (by omega) (by omega)
      have w2 : IntKind.i64.wrap (8 * ((i : Int) % 4)) = ((8 * (i % 4) : Nat) : Int) := by rw [in_i64 (by omega) (by omega)]; omega
      have w3 : min (8 * (i % 4)) 32 = 8 * (i % 4) := by omega
      have gF : (spL F [])[i / 4]? = some (.int .u32 (F (i / 4))) := spL_w (by omega)
      have b1 : 0 ≤ (i : Int) / 4 ∧ (i : Int) / 4 < 8 := by omega
      have hset : ∀ v : AV, v = sumAt F i → (mixL (sumAt F) (fun _ => .int .u8 0) 16 i).set i v = mixL (sumAt F) (fun _ => .int .u8 0) 16 (i + 1) := fun v hv => mixL_set hv
      simp (disch := omega) [stH_eq, upd_eq, tySum, tySponge, tyWords, tyU32, tyU8, tyInt, n1, n2, show (i : Int) < 16 by omega, hi16, binA_quo, binA_rem, q1, w1, w2, w3, gF, b1, binA_shr, IntKind.bits, convOwn_diff, store_int, in_i64]
      refine IH (i + 1) _ (by omega) (by omega) (Am.Sub.of (by simp) (by simp [upd_eq]) fun j b hb' => ?_)
      have e : (8 * ((i : Int) % 4)).toNat = 8 * (i % 4) := by omega
      have hs2 := hset (.int .u8 (IntKind.u8.wrap (F (i / 4) / 2 ^ (8 * (i % 4))))) rfl
      simp only [upd_eq, e] at hb' ⊢
      by_cases hj : j = nt3
      · simpa [hj, hs2] using hb'
      · simpa [hj] using hb'
  · refine Am.Sub.of (by simp) (by simp [upd_eq]) fun j b hb' => ?_
    simp only [mixL_zero, ← zero16] at hb'
    simp only [upd_eq] at hb' ⊢
    by_cases hj : j = nt3
    · simpa [hj] using hb'
    · by_cases hj1 : j = nt + 1
      · simpa [hj, hj1] using hb'
      · by_cases hj2 : j = nt
        · subst hj2; simpa [hj, hz] using hb'
        · by_cases hj3 : j < nt
          · simpa [hj, hj1, hj2, hj3, ho j hj3] using hb'
          · simp [hj, hj1, hj2, hj3] at hb'
end Go.Proofs.Ytgefihgogfkjoaa
