/-
  Srp3: exponents of words, secrets, the verifier: of srp.
-/
import Derived.Test.YtgefihgogfkjoaaSrp2
set_option linter.unusedSimpArgs false
set_option linter.unusedVariables false
namespace Go.Proofs.Ytgefihgogfkjoaa
open Go.Am

/-! ### Strings as bytes -/
def strB (s : ByteArray) : List Int := s.data.toList.map fun b => (b.toNat : Int)
@[simp] theorem strB_length (s : ByteArray) : (strB s).length = s.size := by
  unfold strB
  rw [List.length_map]
  rfl
theorem ro_str (s : ByteArray) : AV.ro s.size (s.data.toList.map byteAV) = roB (strB s) := by
  unfold roB
  rw [strB_length]
  congr 1
  simp [bl, strB, byteAV, u8A]
theorem isB_strB (s : ByteArray) : IsB (strB s) := by
  intro b hb
  simp only [strB, List.mem_map] at hb
  obtain ⟨c, _, rfl⟩ := hb
  have := c.toNat_lt
  omega
theorem conv_strB {s : ByteArray} {b : Nat} {a : Bool} {z : List AV} {s2 b2 : Nat} {a2 : Bool} {z2 : List AV} {h : HP} : convA Try.prog ⟨s2, b2, a2, z2, .str⟩ ⟨1, b, a, z, .slice 5 1 false 1⟩ h (.str s) = some (roB (strB s)) := by
  rw [← ro_str]
  simp only [convA, u8Tb, if_true]
/-- What the program asks of a group. -/
structure GOk (P Q : Nat) : Prop where
  two : P = 2 * Q + 1
  lt : P < 2147483648
  low : 2039 ≤ Q
  odd : Q % 2 = 1
  pr : PrimeN P
  qr : PrimeN Q
theorem GOk.of {k q N : Nat} (hs : Safe k q N) (h2 : k ≤ 31) : GOk (2 * q + 1) q := by
  have := two_pow_31 h2
  exact ⟨rfl, by have := hs.sum; omega, hs.low, hs.odd, primeN_of hs.hp, primeN_of hs.hq⟩
def exW (Q : Nat) (l : List (List Int)) : Nat := exI Q (macI [] l)
theorem exW_range {Q : Nat} (l : List (List Int)) (h : 2 ≤ Q) : 1 ≤ exW Q l ∧ exW Q l ≤ Q - 1 := exI_range _ h
def Few (ls : List (List Int)) : Prop := ls.length ≤ 1000 ∧ ∀ l ∈ ls, l.length ≤ 1000000
theorem Few.small {ls : List (List Int)} (h : Few ls) : Small ls := ⟨by have := h.1; omega, fun l hl => by have := h.2 l hl; omega⟩
theorem Few.short {ls : List (List Int)} (h : Few ls) : Short ls := by
  refine ⟨h.small, ?_⟩
  have key : ∀ (ls : List (List Int)), (∀ l ∈ ls, l.length ≤ 1000000) → ((ls.map fun l => eightI l.length ++ l).flatten).length ≤ ls.length * 1000008 := by
    intro ls
    induction ls with
    | nil => intro _; simp
    | cons l ls ih =>
      intro hl
      have := ih fun m hm => hl m (.tail _ hm)
      have := hl l (.head _)
      simp only [List.map_cons, List.flatten_cons, List.length_append, eightI_length, List.length_cons]
      omega
  have := key ls h.2
  have := h.1
  unfold partsI
  omega
theorem zOkBB : zOk Try.prog 22 1 = true := by kernel_rfl
theorem gexpo {B : Int} {P Q G : Nat} (hG : GOk P Q) (w : ByteArray) (parts : List (List Int)) (b : AV) (hb : b = roBB parts ∨ (parts = [] ∧ b = .nils)) (hf : Few (strB w :: parts)) :
    ASpec Try.prog 43 [group B P Q G, .str w, b] (num (exW Q (strB w :: parts))) := by
  refine ASpec.start 1000 Try.func43 (fn := Try.f43) rfl (by decide) mixed (by kernel_rfl) (by simp) ?_
  have hW := W_big
  have hQ := hG.lt
  have hQ2 := hG.two
  have hQl := hG.low
  have hl := hf.1
  simp only [List.length_cons] at hl
  have hs : ∀ h : HP, srcA 1 h b = some (parts.length, parts.map roB) := by
    intro h
    rcases hb with rfl | ⟨rfl, rfl⟩
    · simp [roBB, srcA]
    · rfl
  simp (disch := omega) [ini, upd_eq, tyNum, tyGroup, tySum, tyBB, tyBytes, tyStr, convOwn_diff, conv_strB, buildBB1 (cellsA_roB (strB w))]
  simp (disch := omega) [upd_eq, appendA, appendB, hs, zOkBB, HP.move, show 1 + parts.length ≤ 4611686018427387904 by omega, show (1 + parts.length) * 24 ≤ 70368744177664 by omega]
  obtain ⟨S, hS, hSB, hSl⟩ : ∃ S, S = macI [] (strB w :: parts) ∧ IsB S ∧ S.length = 16 := ⟨_, rfl, isB_mac _ _, by simp⟩
  refine callT_view (r := smA S) ?_ (by simp) ?_
  · have hv := fun bk nt hb => view_parts (bk := bk) (nt := nt) (id := 3) (f := false) (strB w :: parts) hb
    have e : 1 + parts.length = (strB w :: parts).length := by simp; omega
    have h1 := of_ _ hf.small
    rw [← hS] at h1
    simp only [List.map_cons, List.map_nil, e]
    simp only [List.map_cons] at hv
    simp only [hv _ _ (show (upd _ 3 _) 3 = _ from upd_same _ _ _)]
    exact h1
  have hres : exW Q (strB w :: parts) = exI Q S := by rw [hS]; rfl
  rw [hres]
  simp (disch := omega) [upd_eq, tySum, tyNum, tyGroup, store_smA hSl, hSl, putSeg_bl (l := z16) (m := S) (by simp [hSl])]
  refine callT_view (r := num (exI Q S)) ?_ (by simp) ?_
  · have hv := fun bk nt hb => view_slb (bk := bk) (nt := nt) (id := 4) (f := true) (k := 16) hb hSl
    simp only [List.map_cons, List.map_nil, view_group]
    rw [hv _ _ (by simp [upd_eq])]
    exact gexponent S (by omega) (by omega) (by omega)
  simp (disch := omega) [upd_eq, tyNum, resA_L Try.results43]

/-! ### Secrets -/
theorem convOwn_bl {bk : Nat → Option Blk} {nt id n : Nat} {l : List Int} {f : Bool} (hb : bk id = some ⟨bl l, f⟩) (hl : l.length = n) : convOwn Try.prog 22 22 ⟨bk, nt⟩ (.sl id 0 1 n) = some (roB l, ⟨upd bk id none, nt⟩) := by
  subst hl
  unfold convOwn
  rw [if_pos rfl, tyBytes]
  simp only [hb, u8Tb, bl_length, Nat.le_refl, isU8_bl, and_self, if_true, List.take_of_length_le, HP.drop, roB]
def xI (Q : Nat) (name pass salt : List Int) : Nat := exI Q (stretchI (macI [] [[120], name, pass]) salt)
theorem isB_xorI {o u : List Int} (ho : IsB o) (hu : IsB u) : IsB (xorI o u) := by
  intro b hb
  simp only [xorI, xorK, List.mem_map] at hb
  obtain ⟨i, hi, rfl⟩ := hb
  unfold xorF
  split
  · exact (xor8 (ho.gI i) (hu.gI i)).1
  · exact ho.gI i
theorem isB_stretchK {pass u : List Int} (hu : IsB u) : ∀ k, IsB (stretchK pass u k).1 ∧ IsB (stretchK pass u k).2
  | 0 => ⟨hu, hu⟩
  | k + 1 => ⟨isB_mac _ _, isB_xorI (isB_stretchK hu k).2 (isB_mac _ _)⟩
theorem isB_stretch (pass salt : List Int) : IsB (stretchI pass salt) := (isB_stretchK (isB_mac _ _) 2).2
theorem few1 {a : List Int} (ha : a.length ≤ 100000) : Few [a] := ⟨by simp, by simp; omega⟩
theorem few2 {a b : List Int} (ha : a.length ≤ 100000) (hb : b.length ≤ 100000) : Few [a, b] := ⟨by simp, by simp; omega⟩
theorem few3 {a b c : List Int} (ha : a.length ≤ 100000) (hb : b.length ≤ 100000) (hc : c.length ≤ 100000) : Few [a, b, c] := ⟨by simp, by simp; omega⟩
theorem few5 {a b c d e : List Int} (ha : a.length ≤ 100000) (hb : b.length ≤ 100000) (hc : c.length ≤ 100000) (hd : d.length ≤ 100000) (he : e.length ≤ 100000) : Few [a, b, c, d, e] := ⟨by simp, by simp; omega⟩
theorem gsecret {B : Int} {P Q G : Nat} (hG : GOk P Q) (name : ByteArray) (pass salt : List Int) (hn : name.size ≤ 100000) (hp : pass.length ≤ 100000) (hs : salt.length ≤ 100000) :
    ASpec Try.prog 42 [group B P Q G, .str name, roB pass, roB salt] (num (xI Q (strB name) pass salt)) := by
  refine ASpec.start 1000 Try.func42 (fn := Try.f42) rfl (by decide) mixed (by kernel_rfl) (by simp) ?_
  have hW := W_big
  have hQ := hG.lt
  have hQ2 := hG.two
  have hQl := hG.low
  simp (disch := omega) [ini, upd_eq, tyNum, tyGroup, tySum, tyBB, tyBytes, tyStr, build1b]
  rw [convOwn_bl (l := [120]) (n := 1) (f := true) (by simp [upd_eq]) rfl]
  simp (disch := omega) [upd_eq, tyNum, tyGroup, tySum, tyBB, tyBytes, tyStr, convOwn_diff, conv_strB, buildBB3 (cellsA_roB _) (cellsA_roB _) (cellsA_roB _)]
  obtain ⟨S, hS, hSB, hSl⟩ : ∃ S, S = macI [] [[120], strB name, pass] ∧ IsB S ∧ S.length = 16 := ⟨_, rfl, isB_mac _ _, by simp⟩
  refine callT_view (r := smA S) ?_ (by simp) ?_
  · have hv := fun bk nt hb => view_parts (bk := bk) (nt := nt) (id := 3) (f := true) [[120], strB name, pass] hb
    have h1 := of_ _ (few3 (a := [120]) (b := strB name) (c := pass) (by simp) (by simpa using hn) hp).small
    rw [← hS] at h1
    simp only [List.map_cons, List.map_nil, List.length_cons, List.length_nil, Nat.zero_add, Nat.reduceAdd] at hv
    simp only [List.map_cons, List.map_nil]
    simp only [hv _ _ (show (upd _ 3 _) 3 = _ from upd_same _ _ _)]
    exact h1
  simp (disch := omega) [upd_eq, tySum, tyBytes, store_smA hSl, hSl, putSeg_bl (l := z16) (m := S) (by simp [hSl])]
  obtain ⟨T, hT, hTB, hTl⟩ : ∃ T, T = stretchI S salt ∧ IsB T ∧ T.length = 16 := ⟨_, rfl, isB_stretch _ _, by simp⟩
  refine callT_view (r := smA T) ?_ (by simp) ?_
  · have hv := fun bk nt hb => view_slb (bk := bk) (nt := nt) (id := 4) (f := true) (k := 16) hb hSl
    have h1 := stretch S salt (by omega) (by omega)
    rw [← hT] at h1
    simp only [List.map_cons, List.map_nil, view_roB, view_int]
    simp only [hv _ _ (show (upd _ 4 _) 4 = _ from upd_same _ _ _)]
    exact h1
  have hres : xI Q (strB name) pass salt = exI Q T := by rw [hT, hS]; rfl
  rw [hres]
  simp (disch := omega) [upd_eq, tySum, tyNum, tyGroup, tyBytes, store_smA hTl, hTl, putSeg_bl (l := z16) (m := T) (by simp [hTl])]
  refine callT_view (r := num (exI Q T)) ?_ (by simp) ?_
  · have hv := fun bk nt hb => view_slb (bk := bk) (nt := nt) (id := 5) (f := true) (k := 16) hb hTl
    simp only [List.map_cons, List.map_nil, view_group]
    simp only [hv _ _ (show (upd _ 5 _) 5 = _ from upd_same _ _ _)]
    exact gexponent T (by omega) (by omega) (by omega)
  simp (disch := omega) [upd_eq, tyNum, resA_L Try.results42]
/-- Where the contracts' words stand for one another. -/
theorem gverifier {B : Int} {P Q G : Nat} (hG : GOk P Q) (hg : G < P) (name : ByteArray) (pass salt : List Int) (hn : name.size ≤ 100000) (hp : pass.length ≤ 100000) (hs : salt.length ≤ 100000) :
    ASpec Try.prog 14 [group B P Q G, .str name, roB pass, roB salt] (num (G ^ xI Q (strB name) pass salt % P)) := by
  refine ASpec.start 1000 Try.func14 (fn := Try.f14) rfl (by decide) mixed (by kernel_rfl) (by simp) ?_
  have hW := W_big
  have hQ := hG.lt
  have hQ2 := hG.two
  have hQl := hG.low
  have hx := exI_range (Q := Q) (stretchI (macI [] [[120], strB name, pass]) salt) (by omega)
  simp (disch := omega) [ini, upd_eq, tyNum, tyGroup, nthG3]
  refine callT_of (gsecret hG name pass salt hn hp hs) rfl rfl ?_
  have he : xI Q (strB name) pass salt < Q := by unfold xI; omega
  generalize xI Q (strB name) pass salt = E at *
  simp (disch := omega) [upd_eq]
  refine callT_of (graise (a := G) (e := E) (by omega) (by omega) (by omega) (by omega) (by omega)) (by simp [noRefs]) rfl ?_
  simp (disch := omega) [upd_eq, tyNum, resA_L Try.results14]
end Go.Proofs.Ytgefihgogfkjoaa
