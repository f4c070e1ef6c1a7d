/-
  'Am', part 26: strings made of bytes, held against one another; a remainder of numbers below 0.
-/
import Derived.Test.YtfgojdnakidifaaAmRow
set_option linter.unusedSimpArgs false
set_option linter.unusedVariables false
namespace Go.Am
variable {P : Program}

theorem ba_toList (s : ByteArray) : s.toList = s.data.toList := by
  have key : ∀ (n i : Nat) (r : List UInt8), s.size - i = n → ByteArray.toList.loop s i r = r.reverse ++ s.data.toList.drop i := by
    intro n
    induction n with
    | zero =>
      intro i r h
      rw [ByteArray.toList.loop, if_neg (by omega), List.drop_of_length_le (by have : s.data.toList.length = s.size := rfl; omega), List.append_nil]
    | succ n ih =>
      intro i r h
      have hi : i < s.data.toList.length := by have : s.data.toList.length = s.size := rfl; omega
      rw [ByteArray.toList.loop, if_pos (by omega), ih (i + 1) _ (by omega), List.drop_eq_getElem_cons hi]
      have hg : s.get! i = s.data.toList[i] := by
        show s.data[i]! = _
        rw [getElem!_pos s.data i (by simpa using hi)]
        simp
      rw [hg]
      simp
  have := key _ 0 [] rfl
  simpa [ByteArray.toList] using this
theorem strA_toList (cs : List AV) : (strA cs).toList = cs.map u8of := by
  rw [ba_toList]
  simp [strA]

theorem bytesLess_snoc : ∀ (l m : List UInt8) (a b : UInt8), l.length = m.length → Op.bytesLess (l ++ [a]) (m ++ [b]) = (Op.bytesLess l m || (l == m && decide (a < b)))
  | [], [], a, b, _ => by
    by_cases h : a < b <;> simp [Op.bytesLess, h]
  | x :: l, y :: m, a, b, h => by
    have ih := bytesLess_snoc l m a b (by simpa using h)
    simp only [List.cons_append, Op.bytesLess, ih]
    by_cases h1 : x < y
    · simp [h1]
    · by_cases h2 : x = y
      · subst h2; simp [h1]
      · have h3 : (x == y) = false := by simpa using h2
        simp [h1, h3]

/-- the number of n bytes, the highest first -/
def beV (f : Nat → Nat) : Nat → Nat
  | 0 => 0
  | n + 1 => 256 * beV f n + f n
def u8F (f : Nat → Nat) (i : Nat) : AV := .int .u8 (f i : Nat)
theorem u8of_u8F (f : Nat → Nat) (i : Nat) : u8of (u8F f i) = UInt8.ofNat (f i) := by simp [u8of, u8F]
theorem map_u8F (f : Nat → Nat) (n : Nat) : (famL (u8F f) n).map u8of = (List.range n).map fun i => UInt8.ofNat (f i) := by
  simp [famL, u8of_u8F]
theorem u8_lt {a b : Nat} (ha : a < 256) (hb : b < 256) : decide (UInt8.ofNat a < UInt8.ofNat b) = decide (a < b) := by
  rw [Bool.eq_iff_iff]
  simp only [decide_eq_true_eq, UInt8.lt_iff_toNat_lt, UInt8.toNat_ofNat']
  rw [Nat.mod_eq_of_lt (by simpa using ha), Nat.mod_eq_of_lt (by simpa using hb)]
theorem u8_eq {a b : Nat} (ha : a < 256) (hb : b < 256) : UInt8.ofNat a = UInt8.ofNat b ↔ a = b := by
  rw [← UInt8.toNat_inj, UInt8.toNat_ofNat', UInt8.toNat_ofNat', Nat.mod_eq_of_lt (by simpa using ha), Nat.mod_eq_of_lt (by simpa using hb)]
theorem be_eq {f g : Nat → Nat} {n : Nat} (hf : ∀ i, i < n → f i < 256) (hg : ∀ i, i < n → g i < 256) :
    ((famL (u8F f) n).map u8of == (famL (u8F g) n).map u8of) = decide (beV f n = beV g n) := by
  rw [map_u8F, map_u8F]
  induction n with
  | zero => simp [beV]
  | succ n ih =>
    have ih := ih (fun i hi => hf i (by omega)) (fun i hi => hg i (by omega))
    have h1 := hf n (by omega)
    have h2 := hg n (by omega)
    rw [Bool.eq_iff_iff] at ih ⊢
    rw [show beV f (n + 1) = 256 * beV f n + f n from rfl, show beV g (n + 1) = 256 * beV g n + g n from rfl]
    simp only [beq_iff_eq, decide_eq_true_eq, List.range_succ, List.map_append, List.map_cons, List.map_nil] at ih ⊢
    constructor
    · intro h
      have := List.append_inj h (by simp)
      have h3 := ih.1 this.1
      have h4 : UInt8.ofNat (f n) = UInt8.ofNat (g n) := by simpa using this.2
      rw [u8_eq h1 h2] at h4
      omega
    · intro h
      rw [ih.2 (by omega), show f n = g n by omega]
theorem be_less {f g : Nat → Nat} {n : Nat} (hf : ∀ i, i < n → f i < 256) (hg : ∀ i, i < n → g i < 256) :
    Op.bytesLess ((famL (u8F f) n).map u8of) ((famL (u8F g) n).map u8of) = decide (beV f n < beV g n) := by
  induction n with
  | zero => simp [famL, beV, Op.bytesLess]
  | succ n ih =>
    have ih := ih (fun i hi => hf i (by omega)) (fun i hi => hg i (by omega))
    have he := be_eq (n := n) (f := f) (g := g) (fun i hi => hf i (by omega)) (fun i hi => hg i (by omega))
    have h1 := hf n (by omega)
    have h2 := hg n (by omega)
    rw [famL_succ, famL_succ, List.map_append, List.map_append]
    simp only [List.map_cons, List.map_nil]
    rw [bytesLess_snoc _ _ _ _ (by simp), ih, he, u8of_u8F, u8of_u8F, u8_lt h1 h2, beV, beV]
    rw [Bool.eq_iff_iff]
    simp only [Bool.or_eq_true, Bool.and_eq_true, decide_eq_true_eq]
    omega
theorem beV_lt {f : Nat → Nat} : ∀ {n : Nat}, (∀ i, i < n → f i < 256) → beV f n < 256 ^ n
  | 0, _ => by simp [beV]
  | n + 1, h => by
    have := beV_lt (n := n) fun i hi => h i (by omega)
    have h1 := h n (by omega)
    rw [beV, Nat.pow_succ]
    omega
theorem beV_congr {f g : Nat → Nat} : ∀ {n : Nat}, (∀ i, i < n → f i = g i) → beV f n = beV g n
  | 0, _ => rfl
  | n + 1, h => by rw [beV, beV, beV_congr (n := n) fun i hi => h i (by omega), h n (by omega)]
/-- noughts ahead -/
theorem beV_ahead (f : Nat → Nat) (k : Nat) : ∀ n, beV (fun i => if i < k then 0 else f (i - k)) (k + n) = beV f n
  | 0 => by
    have : ∀ j, j ≤ k → beV (fun i => if i < k then 0 else f (i - k)) j = 0 := by
      intro j
      induction j with
      | zero => intro _; rfl
      | succ j ih => intro h; rw [beV, ih (by omega)]; simp [show j < k by omega]
    simpa [beV] using this k (Nat.le_refl _)
  | n + 1 => by
    rw [← Nat.add_assoc, beV, beV, beV_ahead f k n]
    rw [if_neg (by omega), Nat.add_sub_cancel_left]
theorem leaf_u8F (f : Nat → Nat) (n : Nat) : (famL (u8F f) n).all leafOk = true := leaf_famL fun _ _ => rfl
theorem isU8_u8F (f : Nat → Nat) (n : Nat) : (famL (u8F f) n).all isU8 = true := by
  simp [famL, isU8, u8F]
theorem refsLts_u8F (m : Nat) (f : Nat → Nat) (n : Nat) : refsLts m (famL (u8F f) n) = true := refsLts_famL fun _ _ => rfl
theorem noRefs_u8F (f : Nat → Nat) (n : Nat) : noRefs (famL (u8F f) n) = true := noRefs_famL fun _ _ => rfl
theorem rens_u8F (ρ : Nat → Nat) (f : Nat → Nat) (n : Nat) : rens ρ (famL (u8F f) n) = famL (u8F f) n := rens_famL fun _ _ => rfl

theorem binA_remZ {k : IntKind} {t : TypeId} {x y : Int} (h : y ≠ 0) : binA P .rem t (.int k x) (.int k y) = some (.int k (x.tmod y)) := by
  simp [binA, intA, h]
theorem binA_quoZ {k : IntKind} {t : TypeId} {x y : Int} (h : y ≠ 0) : binA P .quo t (.int k x) (.int k y) = some (.int k (k.wrap (x.tdiv y))) := by
  simp [binA, intA, h]
theorem tmod_within {x y : Int} (h : 0 < y) : (if x.tmod y < 0 then x.tmod y + y else x.tmod y) = x % y := by
  rw [Int.tmod_eq_emod]
  split <;> rename_i hc
  · have := Int.emod_nonneg x (show y ≠ 0 by omega); split <;> omega
  · have h1 := Int.emod_nonneg x (show y ≠ 0 by omega)
    have h2 := Int.emod_lt_of_pos x h
    have h3 : (y.natAbs : Int) = y := by omega
    rw [h3]
    split <;> omega
/-- a conversion of a slice of bytes to a string -/
theorem conv_str {i2 : TyI} {h : HP} {s b e eb : Nat} {a ea : Bool} {z : List AV} {x : AV} {n : Nat} {cs : List AV} (hx : ∀ k m, x ≠ .int k m) (hy : ∀ m, x ≠ .str m) (h2 : i2.td = .str) (hu : u8T P e = true) (hs : srcA 1 h x = some (n, cs)) (hc : cs.all isU8 = true) :
    convA P ⟨s, b, a, z, .slice e 1 ea eb⟩ i2 h x = some (.str (strA cs)) := by
  cases x <;> simp only [convA, h2] <;> first
    | (exact absurd rfl (hx _ _))
    | (exact absurd rfl (hy _))
    | simp [hu, hs, hc]
/-- What a slice of bytes reads as. -/
theorem row_u8 {w : World} {a : Option Addr} {len cap : Nat} {zs : List Int}
    (h : (a = none ∧ len = 0 ∧ cap = 0 ∧ zs = []) ∨
      ∃ x, a = some x ∧ len ≤ cap ∧ cap ≤ maxLen ∧ zs.length = cap ∧ (∀ i, i < zs.length → w.cell? (x.add i) = some (.int .u8 (zs.getD i 0))) ∧ ∀ n ∈ zs, (Lit.int .u8 n).wf = true) :
    VRel (M0 w) false (.ro len (famL (u8F fun i => (zs.getD i 0).toNat) len)) (.slice a len cap) ∧ ∀ i, (zs.getD i 0).toNat < 256 := by
  have h1 := row_ro h
  have hb : ∀ i, 0 ≤ zs.getD i 0 ∧ zs.getD i 0 < 256 := by
    intro i
    rcases h with ⟨_, _, _, rfl⟩ | ⟨x, _, _, _, _, _, hw⟩
    · simp
    · by_cases hi : i < zs.length
      · rw [List.getD_eq_getElem?_getD, List.getElem?_eq_getElem hi]
        exact wf_u8 (hw _ (List.getElem_mem hi))
      · rw [List.getD_eq_getElem?_getD, List.getElem?_eq_none (by omega)]
        simp
  refine ⟨?_, fun i => by have := hb i; omega⟩
  have he : famL (u8F fun i => (zs.getD i 0).toNat) len = famL (fun i => .int .u8 (zs.getD i 0)) len :=
    famL_congr fun i _ => by
      have := hb i
      simp only [u8F]
      congr 1
      omega
  rw [he]
  exact h1
end Go.Am
