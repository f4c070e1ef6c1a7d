/-
  Srp7: a side's key and its proof.
-/
import Derived.Test.YtgefihgogfkjoaaSrp6
set_option linter.unusedSimpArgs false
set_option linter.unusedVariables false
namespace Go.Proofs.Ytgefihgogfkjoaa
open Go.Am

theorem build3b {bk : Nat → Option Blk} {nt : Nat} {x y z : Int} : buildSliceA Try.prog ⟨1, 24, false, [.nils], .slice 5 1 false 1⟩ ⟨bk, nt⟩ 3 [(0, .int .u8 x), (1, .int .u8 y), (2, .int .u8 z)] = some (.sl nt 0 1 3, ⟨upd bk nt (some ⟨bl [x, y, z], true⟩), nt + 1⟩) := by
  simp only [buildSliceA, tyU8]
  rfl
/-- the key of a secret; the proof -/
noncomputable def keyI (S : Nat) : List Int := macI [] [[107, 101, 121], numB S]
noncomputable def proofI (key name salt : List Int) (A B : Nat) : List Int := macI key [[49], name, salt, numB A, numB B]
@[simp] theorem keyI_length (S : Nat) : (keyI S).length = 16 := by simp [keyI]
@[simp] theorem proofI_length (key name salt : List Int) (A B : Nat) : (proofI key name salt A B).length = 16 := by simp [proofI]
theorem isB_keyI (S : Nat) : IsB (keyI S) := isB_mac _ _
theorem isB_proofI (key name salt : List Int) (A B : Nat) : IsB (proofI key name salt A B) := isB_mac _ _
noncomputable def keyedS (s : SD) (salt : List Int) (S : Nat) : SD := { s with key := keyI S, proof := proofI (keyI S) (strB s.name) salt s.a s.b }
theorem keyedS_ok {s : SD} (hs : s.ok) (salt : List Int) (S : Nat) : (keyedS s salt S).ok := ⟨by simp [keyedS], by simp [keyedS], hs.pass, hs.salt, hs.passL, hs.saltL⟩
/-- The blocks of 'keyed': the side, the answer, the parts so far. -/
def KeyedQ (s : SD) (cs : List AV) (h : HP) : Prop := h.bk 0 = some ⟨sideL s, true⟩ ∧ h.bk 2 = some ⟨sideL side0, true⟩ ∧ 8 ≤ h.nt ∧ ∃ j f, (j = 6 ∨ 8 ≤ j) ∧ j < h.nt ∧ h.bk 7 = some ⟨[.sl j 0 1 cs.length], true⟩ ∧ h.bk j = some ⟨cs, f⟩
theorem side0_ok : side0.ok := ⟨rfl, rfl, rfl, rfl, rfl, rfl⟩
theorem view_at {s : SD} (hs : s.ok) {bk : Nat → Option Blk} {nt id off : Nat} {f : Bool} {l : List Int} (hb : bk id = some ⟨sideL s, f⟩) (hg : segA (sideL s) off 16 = some (smA l)) (hl : l.length = 16) : view ⟨bk, nt⟩ (.sl id off 1 16) = roB l := by
  have h1 : off + 16 ≤ (sideL s).length ∧ ((sideL s).drop off).take 16 = bl l := by
    unfold segA at hg
    split at hg
    · rename_i h
      refine ⟨h, ?_⟩
      simpa [smA] using hg
    · cases hg
  rw [view_sl (cs := sideL s) (f := f) hb (by rw [Nat.mul_one]; exact h1.1) (noRefs_sideL hs)]
  rw [Nat.mul_one, h1.2, roB, hl]
theorem keyed {s : SD} (hs : s.ok) {salt : List Int} (hsalt : s.salt = roB salt) (hl : salt.length ≤ 100000) (hn : s.name.size ≤ 100000) (S : Nat) : ASpec Try.prog 51 [side s, num S] (side (keyedS s salt S)) := by
  refine ASpec.start 1000 Try.func51 (fn := Try.f51) rfl (by decide) mixed (by kernel_rfl) (by simp) ?_
  simp (disch := omega) [ini, upd_eq, tyNum, tySide, tyBB, tyBytes, build3b]
  rw [convOwn_bl (l := [107, 101, 121]) (n := 3) (f := true) (by simp [upd_eq]) rfl]
  simp (disch := omega) [upd_eq, tyNum]
  refine callT_of (bytesB S) rfl rfl ?_
  simp (disch := omega) [upd_eq, tyBB, buildBB2 (cellsA_roB _) (cellsA_roB _)]
  obtain ⟨K, hK, hKB, hKl⟩ : ∃ K, K = keyI S ∧ IsB K ∧ K.length = 16 := ⟨_, rfl, isB_keyI S, by simp⟩
  refine callT_view (r := smA K) ?_ (by simp) ?_
  · have hv := fun bk nt hb => view_parts (bk := bk) (nt := nt) (id := 4) (f := true) [[107, 101, 121], numB S] hb
    have h1 := of_ _ (few2 (a := [107, 101, 121]) (b := numB S) (by simp) (by simp)).small
    rw [show macI [] [[107, 101, 121], numB S] = K from hK.symm] at h1
    simp only [List.map_cons, List.map_nil, List.length_cons, List.length_nil, Nat.zero_add, Nat.reduceAdd] at hv
    simp only [List.map_cons, List.map_nil]
    simp only [hv _ _ (show (upd _ 4 _) 4 = _ from upd_same _ _ _)]
    exact h1
  simp (disch := omega) [upd_eq, tySum, tySide, tyBB, tyBytes, tyStr, store_smA hKl, putS_key hs.key hKl, build1b]
  rw [convOwn_bl (l := [49]) (n := 1) (f := true) (by simp [upd_eq]) rfl]
  have hcs : cellsA s.salt = some [s.salt] := by rw [hsalt]; rfl
  simp (disch := omega) [upd_eq, tySum, tySide, tyBB, tyBytes, tyStr, tyNum, convOwn_diff, conv_strB, buildBB3 (cellsA_roB _) (cellsA_roB _) hcs, sstore_sl, tyNums, buildN2]
  obtain ⟨s1, hs1⟩ : ∃ s1 : SD, s1 = { s with key := K } := ⟨_, rfl⟩
  rw [← hs1]
  have e1 : s1.name = s.name := by rw [hs1]
  have ok1 : s1.ok := by rw [hs1]; exact ⟨hKl, hs.proof, hs.pass, hs.salt, hs.passL, hs.saltL⟩
  refine callT_own (first := []) (caps := []) (PSpec.frz 8 (frz_duo (f := true) (by simp [upd_eq])) rfl (by simp [noRef, noRefs]) (numbers_ s.a s.b)) ?_
  rintro r ⟨bk, nt⟩ hn ⟨rfl, hh⟩
  cases hh
  clear hn
  simp (disch := omega) [upd_eq, HP.drop]
  refine goT_rangeFunc (Q := fun _ h' => KeyedQ s1 [roB [49], roB (strB s.name), s.salt, roB (numB s.a), roB (numB s.b)] h') (gf := 102) (caps := [.rp [.ro 2 (duoL s.a s.b)]]) (by simp [upd_eq]) (fun L hL => ?_) ?_
  · have round : ∀ (cs : List AV) (x : Nat), cs.length ≤ 10 → ∀ h1 : HP, KeyedQ s1 cs h1 → YSpec Try.prog L [roB (numB x)] h1 (fun h' => KeyedQ s1 (cs ++ [roB (numB x)]) h') := by
      rintro cs x hcs ⟨bk, nt⟩ ⟨g0, g1, hnt, j, f, hj8, hj, g2, g3⟩
      simp only at g0 g1 g2 g3 hj hnt
      have n2 : (7 : Nat) ≠ nt := by omega
      have n0 : (0 : Nat) ≠ nt := by omega
      have n1 : (2 : Nat) ≠ nt := by omega
      have m2 : (7 : Nat) ≠ nt + 1 := by omega
      have m0 : (0 : Nat) ≠ nt + 1 := by omega
      have m1 : (2 : Nat) ≠ nt + 1 := by omega
      have j2 : (7 : Nat) ≠ j := by omega
      have j1 : (2 : Nat) ≠ j := by omega
      have j0 : (0 : Nat) ≠ j := by omega
      have jn : j ≠ nt := by omega
      refine yspec_T hL (by decide) (by kernel_rfl) (by kernel_rfl) ?_
      simp (disch := omega) [upd_eq, ptrs, tyBB, g0, g1, g2, g3, buildBB1 (cellsA_roB _), appendA, appendB, srcA, zOkBB, HP.move, n2, m2, j2, jn, sstore_sl, List.take_of_length_le, show (cs.length + 1) * 24 ≤ 70368744177664 by omega, show cs.length ≤ 4611686018427387903 by omega]
      refine ⟨?_, ?_, ?_, nt + 1, false, ?_, ?_, ?_, ?_⟩ <;> simp [upd_eq, g0, g1, g3, n0, n1, m0, m1, n2, m2, j0, j1, j2] <;> omega
    have stay : ∀ (cs : List AV) (hx h1 : HP), KeyedQ s1 cs hx → hx.nt ≤ h1.nt → (∀ i, i < hx.nt → h1.bk i = hx.bk i) → KeyedQ s1 cs h1 := by
      rintro cs hx h1 ⟨g0, g1, hnt, j, f, hj8, hj, g2, g3⟩ hle heq
      exact ⟨(heq 0 (by omega)).trans g0, (heq 2 (by omega)).trans g1, by omega, j, f, hj8, by omega, (heq 7 (by omega)).trans g2, (heq j hj).trans g3⟩
    refine numbers1 s.a s.b L (Q1 := fun h' => KeyedQ s1 [roB [49], roB (strB s.name), s.salt, roB (numB s.a)] h') (Q2 := fun h' => KeyedQ s1 [roB [49], roB (strB s.name), s.salt, roB (numB s.a), roB (numB s.b)] h') ?_ ?_
    · intro h1 hnt heq
      refine round [roB [49], roB (strB s.name), s.salt] s.a (by simp) h1 (stay _ _ h1 ?_ hnt heq)
      refine ⟨by simp [upd_eq], by simp [upd_eq], by simp, 6, true, .inl rfl, by simp, by simp [upd_eq], by simp [upd_eq]⟩
    · intro hx h1 hnt hq hle heq
      exact round [roB [49], roB (strB s.name), s.salt, roB (numB s.a)] s.b (by simp) h1 (stay _ _ h1 hq hle heq)
  · rintro r' ⟨bk, nt⟩ hnt ⟨g0, g1, hnt2, j, f, hj8, hj, g2, g3⟩
    simp only at g0 g1 g2 g3 hj
    refine goT_run mixed 100 ?_
    have ok2 : (keyedS s salt S).ok := keyedS_ok hs salt S
    simp (disch := omega) [upd_eq, tySide, tySum, tyBB, g0, g1, g2, ok1.key]
    obtain ⟨T, hT, hTB, hTl⟩ : ∃ T, T = proofI K (strB s.name) salt s.a s.b ∧ IsB T ∧ T.length = 16 := ⟨_, rfl, isB_proofI _ _ _ _ _, by simp⟩
    have hfin : { s1 with proof := T } = keyedS s salt S := by rw [hT, hs1, hK]; rfl
    refine callT_view (r := smA T) ?_ (by simp) ?_
    · have hv1 := view_at ok1 (bk := bk) (nt := nt) (id := 0) (f := true) g0 (segS_key ok1) ok1.key
      have ek : s1.key = K := by rw [hs1]
      rw [ek] at hv1
      have hv2 := view_parts (bk := bk) (nt := nt) (id := j) (f := f) [[49], strB s.name, salt, numB s.a, numB s.b] (by rw [g3, hsalt]; rfl)
      have hm := mac K _ (by omega) (few5 (a := [49]) (b := strB s.name) (c := salt) (d := numB s.a) (e := numB s.b) (by simp) (by simpa using hn) hl (by simp) (by simp)).small
      rw [show macI K [[49], strB s.name, salt, numB s.a, numB s.b] = T from hT.symm] at hm
      simp only [List.length_cons, List.length_nil, Nat.zero_add, Nat.reduceAdd] at hv2
      simp only [List.map_cons, List.map_nil, hv1, hv2]
      exact hm
    simp (disch := omega) [upd_eq, tySum, tySide, g0, g1, ok1.key, ok1.proof, store_smA hTl, putS_proof ok1.key ok1.proof hTl, hfin, segS_all ok2, store_side ok2, putS_all side0_ok ok2, resA_L Try.results51, view_side _ ok2]
end Go.Proofs.Ytgefihgogfkjoaa
