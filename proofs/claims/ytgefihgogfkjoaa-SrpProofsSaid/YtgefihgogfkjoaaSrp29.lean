/-
  Srp29: SrpProofs: a text with a byte turned; texts held against one another; the law
-/
import Derived.Test.YtgefihgogfkjoaaSrp28
set_option linter.unusedSimpArgs false
set_option linter.unusedVariables false
/-! Srp29: a text with a byte turned; texts held against one another; rows of texts. -/
namespace Go.Proofs.Ytgefihgogfkjoaa
open Go.Am

theorem bl_set (l : List Int) (k : Nat) (b : Int) : (bl l).set k (.int .u8 b) = bl (l.set k b) := by
  simp only [bl, List.map_set]
  rfl
theorem isB_set {l : List Int} (h : IsB l) (k : Nat) {b : Int} (h0 : 0 ≤ b) (h1 : b < 256) : IsB (l.set k b) := by
  intro x hx
  rcases List.mem_or_eq_of_mem_set hx with hx | rfl
  · exact h x hx
  · exact ⟨h0, h1⟩
theorem turned (l : List Int) (x b : Int) (h0 : 0 < l.length) (hl : l.length ≤ 100000) (hB : IsB l) : ∃ T : List Int, T.length = l.length ∧ IsB T ∧ ASpec Try.prog 23 [roB l, .int .i64 x, .int .u8 b] (roB T) := by
  obtain ⟨k, hk, -, w1⟩ := within7N x l.length h0 (by omega)
  refine ⟨l.set k (IntKind.u8.wrap (gI l k + b)), by simp, isB_set hB k (by rw [w_u8]; omega) (by rw [w_u8]; omega), ?_⟩
  refine ASpec.start 1000 Try.func23 (fn := Try.f23) rfl (by decide) mixed (by kernel_rfl) (by simp) ?_
  simp (disch := omega) [ini, upd_eq, tyBytes, build0b, appendA, appendB, srcA_roB, zOkU8, HP.move, show l.length ≤ 70368744177664 by omega, show l.length ≤ 4611686018427387904 by omega, lenA]
  refine callT_of w1 rfl rfl ?_
  simp (disch := omega) [upd_eq, tyBytes, tyU8, hk, bl_get hk, store_int, bl_set]
  simp only [resA_L Try.results23, resL_1, resVar_tmp, r1_some, upd_same]
  rw [view_sl (cs := bl (l.set k (IntKind.u8.wrap (gI l k + b)))) (f := false) (by simp [upd_eq]) (by simp) (noRefs_bl _)]
  simp [roB, List.take_of_length_le]
theorem u8of_inj {a b : Int} (ha : 0 ≤ a ∧ a < 256) (hb : 0 ≤ b ∧ b < 256) (h : u8of (u8A a) = u8of (u8A b)) : a = b := by
  simp only [u8of, u8A] at h
  have := congrArg UInt8.toNat h
  simp at this
  omega
theorem strA_inj : ∀ {a b : List Int}, IsB a → IsB b → (strA (bl a)).toList = (strA (bl b)).toList → a = b := by
  intro a b ha hb h
  have h1 : (bl a).map u8of = (bl b).map u8of := by
    rw [← strA_toList, ← strA_toList]; exact h
  simp only [bl, List.map_map] at h1
  clear h
  induction a generalizing b with
  | nil =>
    cases b with
    | nil => rfl
    | cons y b => simp at h1
  | cons x a ih =>
    cases b with
    | nil => simp at h1
    | cons y b =>
      simp only [List.map_cons, List.cons.injEq, Function.comp] at h1
      have e1 := u8of_inj (ha x (by simp)) (hb y (by simp)) h1.1
      have e2 := ih (fun z hz => ha z (by simp [hz])) (fun z hz => hb z (by simp [hz])) h1.2
      rw [e1, e2]
theorem eqlSS {t : TypeId} {a b : List Int} (ha : IsB a) (hb : IsB b) : binA Try.prog .eql t (.str (strA (bl a))) (.str (strA (bl b))) = some (.bool (decide (a = b))) := by
  by_cases h : a = b
  · subst h
    rw [eqlS, decide_eq_true rfl]
  · have h2 : ¬ (strA (bl a)).toList = (strA (bl b)).toList := fun he => h (strA_inj ha hb he)
    simp [binA, strOpA, h, h2]
/-- four texts -/
noncomputable def fourL (x : Nat → List Int) : List AV := [roB (x 0), roB (x 1), roB (x 2), roB (x 3)]
theorem four_at (x : Nat → List Int) {i : Nat} (h : i < 4) : (fourL x)[i]? = some (roB (x i)) := by
  match i, h with
  | 0, _ => rfl
  | 1, _ => rfl
  | 2, _ => rfl
  | 3, _ => rfl
end Go.Proofs.Ytgefihgogfkjoaa

/-! Srp30: SrpProofs. -/
namespace Go.Proofs.Ytgefihgogfkjoaa
open Go.Am

theorem frzOut_roB {h : HP} {l : List Int} : frzOut (roB l, h) = some (roB l) := frzOut_ro
theorem frz_roBn {bk : Nat → Option Blk} {nt j n : Nat} {l : List Int} {f : Bool} (h : bk j = some ⟨bl l, f⟩) (hn : l.length = n) : Frz ⟨bk, nt⟩ j (.sl j 0 1 n) (roB l) := by
  subst hn; exact frz_roB h
theorem rows_frz {bk : Nat → Option Blk} {nt j n : Nat} {a b c l : List Int} {f : Bool} (h : bk j = some ⟨bl l, f⟩) (hn : l.length = n) : FrzL ⟨bk, nt⟩ j [roB a, roB b, roB c, .sl j 0 1 n] [roB a, roB b, roB c, roB l] :=
  ⟨_, _, rfl, .inl rfl, _, _, rfl, .inl rfl, _, _, rfl, .inl rfl, _, _, rfl, frz_roBn h hn, rfl⟩
theorem isB_snoc {l : List Int} (h : IsB l) {b : Int} (hb : 0 ≤ b ∧ b < 256) : IsB (l ++ [b]) := by
  intro x hx
  simp only [List.mem_append, List.mem_singleton] at hx
  rcases hx with hx | rfl
  · exact h x hx
  · exact hb
theorem isB_takeL {l : List Int} (h : IsB l) (k : Nat) : IsB (l.take k) := fun x hx => h x (List.mem_of_mem_take hx)
theorem srpProofs (n : Int) (name : ByteArray) (pass p q : List Int) (x b8 cut : Int) (raw : List Int) (hb8 : 0 ≤ b8 ∧ b8 < 256) (hraw : IsB raw) :
    ASpec Try.prog 4 [.int .i64 n, .str name, roB pass, roB p, roB q, .int .i64 x, .int .u8 b8, .int .i64 cut, roB raw] (.bool true) := by
  refine ASpec.startX [17, 24] 1000 Try.func4 (fn := Try.f4) rfl (by decide) mixed (by kernel_rfl) (by simp) ?_
  have hW := W_big
  simp (disch := omega) [ini, upd_eq]
  refine callT_of known7 rfl rfl ?_
  simp (disch := omega) [upd_eq, tyStr, tyBytes, tyBB, convOwn_diff, conv_strB, buildBB4 (cellsA_roB _) (cellsA_roB _) (cellsA_roB _) (cellsA_roB _)]
  refine callT_view (r := .bool (decide (∀ l ∈ [strB name, pass, p, q], l.length ≤ 64))) ?_ (by simp [flat]) ?_
  · have hv := fun bk nt hb => view_parts (bk := bk) (nt := nt) (id := 0) (f := true) [strB name, pass, p, q] hb
    simp only [List.map_cons, List.map_nil, List.length_cons, List.length_nil, Nat.zero_add, Nat.reduceAdd] at hv
    simp only [List.map_cons, List.map_nil]
    rw [hv _ _ (by simp [upd_eq])]
    exact short _ (by simp)
  by_cases hsh : ∀ l ∈ [strB name, pass, p, q], l.length ≤ 64
  case neg =>
    rw [decide_eq_false hsh]
    simp (disch := omega) [upd_eq, resA_L Try.results4, view, view1, noRef]
  rw [decide_eq_true hsh]
  have z1 := hsh (strB name) (by simp)
  have z2 := hsh pass (by simp)
  have z4 := hsh p (by simp)
  have z5 := hsh q (by simp)
  rw [strB_length] at z1
  by_cases hr : (60 : Int) < raw.length
  · simp (disch := omega) [upd_eq, tyBytes, lenA_roB, hr, resA_L Try.results4, view, view1, noRef]
  obtain ⟨k, Q, N, hs, hk, g1⟩ := group_ n
  have hG : GOk (2 * Q + 1) Q := GOk.of hs hk
  have R := run (gB := k) hG name pass p p q (by omega) (by omega) (by omega) (by omega) (by omega)
  generalize 2 * Q + 1 = P at *
  generalize offB P Q 4 (4 ^ xI Q (strB name) pass p % P) (exW Q [[98], q]) = b at *
  generalize 4 ^ xI Q (strB name) pass p % P = V at *
  generalize 4 ^ exW Q [[97], p] % P = A at *
  generalize offS k P Q 4 name p V A (exW Q [[98], q]) = S at *
  generalize provS (helloS k P Q 4 name pass p) pass p b = D at *
  generalize helloS k P Q 4 name pass p = c at *
  obtain ⟨hv, ha, hbP, -, s1, s2, s3, -, s4, okc, oks, okd, hkey, hproof, hsB⟩ := R
  have hP := hG.lt
  have hbW : b < W := by omega
  have okr : leafOk (RD.salt ⟨1, name, roB p, V⟩) = true := rfl
  have nrr : noRef (rec_ ⟨1, name, roB p, V⟩) = true := noRef_rec rfl
  simp (disch := omega) [upd_eq, tyBytes, lenA_roB, hr]
  refine callT_of g1 rfl (by simp) ?_
  simp (disch := omega) [upd_eq, tyGroup]
  refine callT_of s1 (by simp [noRefs, noRef]) rfl ?_
  simp (disch := omega) [upd_eq, tyRec, tyGroup, build_rec (cellsA_roB _), store_rec okr, putR_all]
  refine callT_of s2 (by simp [noRefs, noRef]) (by simp [noRef, noRefs, noRef_side okc]) ?_
  simp (disch := omega) [upd_eq, tyRec, tyGroup, tyNum, tySide, store_side okc, putS_all side0_ok okc]
  by_cases h0 : b = 0
  · rw [if_pos h0] at s3
    refine callT_of s3 (by simp [noRefs, nrr]) (by simp [noRef, noRefs, noRef_side side0_ok]) ?_
    simp (disch := omega) [upd_eq, tyNum, tySide, store_side side0_ok, putS_all side0_ok side0_ok, resA_L Try.results4, view, view1, noRef]
  rw [if_neg h0] at s3
  have s4 := s4 h0
  have s5 := gcheck oks hsB hsB (by have := oks.proof; omega)
  rw [if_pos rfl, decide_eq_true rfl] at s5
  rw [hproof] at s4
  have hsl := oks.proof
  have hkl := oks.key
  refine callT_of s3 (by simp [noRefs, nrr]) (by simp [noRef, noRefs, noRef_side oks]) ?_
  simp (disch := omega) [upd_eq, tyRec, tyGroup, tyNum, tySide, store_side oks, putS_all side0_ok oks, segS_all okc]
  refine callT_of s4 (by simp [noRefs, noRef_side okc]) (by simp [noRef, noRefs, noRef_side okd]) ?_
  simp (disch := omega) [upd_eq, tySum, tyNum, tySide, store_side okd, putS_all side0_ok okd, segS_all oks, store_smA hsl, putSeg_bl (l := z16) (m := S.proof) (by simp [hsl]), segA_bl hsl]
  refine callT_of (rbytesS S.proof hsl) (by simp [noRefs]) rfl ?_
  simp (disch := omega) [upd_eq, tySide, segS_all oks]
  refine callT_of s5 (by simp [noRefs, noRef_side oks]) (by simp [noRef, noRefs]) ?_
  simp (disch := omega) [upd_eq, tySum, tySide, store_smA (secI_length _ _), putSeg_bl (l := z16) (m := secI S.key S.proof) (by simp), segA_bl (secI_length _ _)]
  refine callT_of (rbytesS (secI S.key S.proof) (by simp)) (by simp [noRefs]) rfl ?_
  simp (disch := omega) [upd_eq]
  have hbk : (secI S.key S.proof).length = 16 := secI_length _ _
  have hbB : IsB (secI S.key S.proof) := isB_secI _ _
  have s6 := fun (l : List Int) (hl : IsB l) (hll : l.length ≤ 100000) => gdone okd (l := l) hl hll
  rw [hkey, hproof] at s6
  have s5 := fun (l : List Int) (hl : IsB l) (hll : l.length ≤ 100000) => gcheck oks hsB (l := l) hl hll
  clear s4 s3 s2 s1 hv ha hbP hbW okr nrr okc hkey hproof g1 hG
  generalize secI S.key S.proof = Y at *
  generalize hX : S.proof = X at *
  have hr : raw.length ≤ 60 := by omega
  obtain ⟨T1, t1, t2, t3⟩ := turned X x b8 (by omega) (by omega) hsB
  obtain ⟨T2, u1, u2, u3⟩ := turned Y x b8 (by omega) (by omega) hbB
  obtain ⟨j, hj, hj2, w1⟩ := within7N cut 17 (by decide) (by decide)
  have ms : ∀ (s : SD), s.ok → ∀ m, refsLts m (sideL s) = true := fun s h m => refsLts_noRefs m _ (noRefs_sideL h)
  refine goT_has (l := [(5, .int .i64 x), (6, .int .u8 b8), (7, .int .i64 cut), (8, roB raw), (23, .ptr 5 0), (26, .ptr 7 0), (29, roB X), (32, roB Y)]) (b := [(5, ⟨sideL S, true⟩), (7, ⟨sideL D, true⟩)]) (n := 10) ?_ ?_
  case refine_2 =>
    refine ⟨?_, ?_⟩
    · simp [upd_eq, refsLt]
    · simp [upd_eq, ms _ oks, ms _ okd]
  refine goT_regionZ mixed [109, 115] 0 (by kernel_rfl) ?_
  have sl1 := fun h => slice_to (s := 1) (b := 24) (a := false) (z := [.nils]) (e := 5) (eb := 1) (ea := false) (q := .i64) (h := h) X j (by omega) (by omega)
  simp (disch := omega) [st_eq, upd_eq, tyBytes, tyBB]
  refine callT_of t3 (by simp [noRefs, noRef]) rfl ?_
  simp (disch := omega) [upd_eq, tyBytes, tyBB]
  refine callT_of w1 rfl rfl ?_
  simp (disch := omega) [upd_eq, tyBytes, tyBB, sl1, frzB1, noRefs, noRef, noRefO, frzOut_roB, build0b, appendA, appendB, srcA_roB, zOkU8, HP.move, bl_take, List.take_of_length_le, bl_app, buildBB4 (cellsA_roB _) (cellsA_roB _) (cellsA_roB _) (show cellsA (.sl 12 0 1 (X.length + 1)) = some [.sl 12 0 1 (X.length + 1)] from rfl),
    show X.length ≤ 70368744177664 by omega, show X.length ≤ 4611686018427387904 by omega, show X.length + 1 ≤ 70368744177664 by omega, show X.length + 1 ≤ 4611686018427387904 by omega]
  have he : ∀ Y : List Int, (Y ++ [b8]).length = Y.length + 1 := fun Y => by simp
  refine goT_frz1 (L := [(5, .int .i64 x), (6, .int .u8 b8), (7, .int .i64 cut), (8, roB raw), (23, .ptr 5 0), (26, .ptr 7 0), (29, roB X), (32, roB Y), (33, .sl 13 0 1 4)]) (B := [(5, ⟨sideL S, true⟩), (7, ⟨sideL D, true⟩), (13, ⟨[roB T1, roB (X.take j), roB raw, roB (X ++ [b8])], true⟩)]) 12 (by simp) ?_ ?_ ?_
  · intro q hq
    simp only [List.mem_cons, List.not_mem_nil, or_false] at hq
    rcases hq with rfl | rfl | rfl | rfl | rfl | rfl | rfl | rfl | rfl
    all_goals exact .inl (by simp [upd_eq])
  · intro q hq
    simp only [List.mem_cons, List.not_mem_nil, or_false] at hq
    rcases hq with rfl | rfl | rfl
    · exact ⟨_, by simp [upd_eq], rfl, frzL_refl _⟩
    · exact ⟨_, by simp [upd_eq], rfl, frzL_refl _⟩
    · exact ⟨⟨[roB T1, roB (X.take j), roB raw, .sl 12 0 1 (X.length + 1)], true⟩, by simp [upd_eq], rfl, rows_frz (f := false) (by simp [upd_eq]) (he X)⟩
  obtain ⟨R, hR⟩ : ∃ R : Nat → List Int, R = fun i => if i = 0 then T1 else if i = 1 then X.take j else if i = 2 then raw else X ++ [b8] := ⟨_, rfl⟩
  have r4 : [roB T1, roB (X.take j), roB raw, roB (X ++ [b8])] = fourL R := by rw [hR]; rfl
  have rB : ∀ i, IsB (R i) ∧ (R i).length ≤ 100000 := by
    intro i
    rw [hR]
    simp only
    split
    · exact ⟨t2, by omega⟩
    · split
      · exact ⟨isB_takeL hsB _, by rw [List.length_take]; omega⟩
      · split
        · exact ⟨hraw, by omega⟩
        · exact ⟨isB_snoc hsB hb8, by simp; omega⟩
  rw [r4]
  clear hR r4
  have ns : ∀ m, refsLts m (fourL R) = true := fun m => refsLts_noRefs m _ rfl
  rw [st_eq]
  refine goT_run mixed 20 ?_
  simp (disch := omega) [upd_eq]
  refine goT_count (fun i => [(5, .int .i64 x), (6, .int .u8 b8), (7, .int .i64 cut), (8, roB raw), (23, .ptr 5 0), (26, .ptr 7 0), (29, roB X), (32, roB Y), (33, .sl 13 0 1 4), (34, .int .i64 (i : Nat))]) (fun _ => [(5, ⟨sideL S, true⟩), (7, ⟨sideL D, true⟩), (13, ⟨fourL R, true⟩)]) 14 4 ?_ ?_ ?_
  · intro i hi IH
    have c5 := s5 (R i) (rB i).1 (rB i).2
    have fa := four_at R hi
    have fB := (rB i).1
    generalize R i = r at *
    refine goT_round mixed 100 ?_
    simp (disch := omega) [st_eq, upd_eq, tyBB, tyBytes, tySide, lenA, show (i : Int) < 4 by omega, segS_all oks, fa]
    by_cases hrX : r = X
    · rw [if_pos hrX, decide_eq_true hrX] at c5
      refine callT_of c5 (by simp [noRefs, noRef_side oks]) (by simp [noRef, noRefs]) ?_
      simp (disch := omega) [upd_eq, tyBB, tyBytes, tyStr, tySum, store_smA hbk, putSeg_bl (l := z16) (m := Y) (by simp [hbk]), fa, show (i : Int) < 4 by omega, convOwn_BS, conv_S, eqlS, hrX, isBoolB, in_i64]
      refine IH _ ⟨?_, ?_⟩
      · simp [upd_eq, refsLt]
      · simp [upd_eq, ms _ oks, ms _ okd, ns]
    · rw [if_neg hrX, decide_eq_false hrX] at c5
      refine callT_of c5 (by simp [noRefs, noRef_side oks]) (by simp [noRef, noRefs]) ?_
      simp (disch := omega) [upd_eq, tyBB, tyBytes, tyStr, tySum, store_smA z16_length, putSeg_bl (l := z16) (m := z16) (by simp), segA_bl z16_length, fa, show (i : Int) < 4 by omega, convOwn_BS, conv_S, eqlSS fB hsB, hrX, isBoolB, build_z16, neq_sum z16_length z16_length, in_i64]
      refine IH _ ⟨?_, ?_⟩
      · simp [upd_eq, refsLt]
      · simp [upd_eq, ms _ oks, ms _ okd, ns]
  · refine goT_round mixed 30 ?_
    simp (disch := omega) [st_eq, upd_eq, tyBB, lenA]
    refine goT_has (l := [(5, .int .i64 x), (6, .int .u8 b8), (7, .int .i64 cut), (8, roB raw), (26, .ptr 7 0), (32, roB Y)]) (b := [(7, ⟨sideL D, true⟩)]) (n := 10) ?_ ?_
    case refine_2 =>
      refine ⟨?_, ?_⟩
      · simp [upd_eq, refsLt]
      · simp [upd_eq, ms _ oks, ms _ okd]
    refine goT_regionZ mixed [159, 165] 0 (by kernel_rfl) ?_
    have sl1 := fun h => slice_to (s := 1) (b := 24) (a := false) (z := [.nils]) (e := 5) (eb := 1) (ea := false) (q := .i64) (h := h) Y j (by omega) (by omega)
    simp (disch := omega) [st_eq, upd_eq, tyBytes, tyBB]
    refine callT_of u3 (by simp [noRefs, noRef]) rfl ?_
    simp (disch := omega) [upd_eq, tyBytes, tyBB]
    refine callT_of w1 rfl rfl ?_
    simp (disch := omega) [upd_eq, tyBytes, tyBB, sl1, frzB1, noRefs, noRef, noRefO, frzOut_roB, build0b, appendA, appendB, srcA_roB, zOkU8, HP.move, bl_take, List.take_of_length_le, bl_app, buildBB4 (cellsA_roB _) (cellsA_roB _) (cellsA_roB _) (show cellsA (.sl 12 0 1 (Y.length + 1)) = some [.sl 12 0 1 (Y.length + 1)] from rfl),
      show Y.length ≤ 70368744177664 by omega, show Y.length ≤ 4611686018427387904 by omega, show Y.length + 1 ≤ 70368744177664 by omega, show Y.length + 1 ≤ 4611686018427387904 by omega]
    refine goT_frz1 (L := [(26, .ptr 7 0), (32, roB Y), (33, .sl 13 0 1 4)]) (B := [(7, ⟨sideL D, true⟩), (13, ⟨[roB T2, roB (Y.take j), roB raw, roB (Y ++ [b8])], true⟩)]) 12 (by simp) ?_ ?_ ?_
    · intro q hq
      simp only [List.mem_cons, List.not_mem_nil, or_false] at hq
      rcases hq with rfl | rfl | rfl
      all_goals exact .inl (by simp [upd_eq])
    · intro q hq
      simp only [List.mem_cons, List.not_mem_nil, or_false] at hq
      rcases hq with rfl | rfl
      · exact ⟨_, by simp [upd_eq], rfl, frzL_refl _⟩
      · exact ⟨⟨[roB T2, roB (Y.take j), roB raw, .sl 12 0 1 (Y.length + 1)], true⟩, by simp [upd_eq], rfl, rows_frz (f := false) (by simp [upd_eq]) (he Y)⟩
    obtain ⟨R2, hR⟩ : ∃ R : Nat → List Int, R = fun i => if i = 0 then T2 else if i = 1 then Y.take j else if i = 2 then raw else Y ++ [b8] := ⟨_, rfl⟩
    have r4 : [roB T2, roB (Y.take j), roB raw, roB (Y ++ [b8])] = fourL R2 := by rw [hR]; rfl
    have rB : ∀ i, IsB (R2 i) ∧ (R2 i).length ≤ 100000 := by
      intro i
      rw [hR]
      simp only
      split
      · exact ⟨u2, by omega⟩
      · split
        · exact ⟨isB_takeL hbB _, by rw [List.length_take]; omega⟩
        · split
          · exact ⟨hraw, by omega⟩
          · exact ⟨isB_snoc hbB hb8, by simp; omega⟩
    rw [r4]
    clear hR r4
    have ns : ∀ m, refsLts m (fourL R2) = true := fun m => refsLts_noRefs m _ rfl
    rw [st_eq]
    refine goT_run mixed 20 ?_
    simp (disch := omega) [upd_eq]
    refine goT_count (fun i => [(26, .ptr 7 0), (32, roB Y), (33, .sl 13 0 1 4), (37, .int .i64 (i : Nat))]) (fun _ => [(7, ⟨sideL D, true⟩), (13, ⟨fourL R2, true⟩)]) 14 4 ?_ ?_ ?_
    · intro i hi IH
      have c6 := s6 (R2 i) (rB i).1 (rB i).2
      have fa := four_at R2 hi
      have fB := (rB i).1
      generalize R2 i = r at *
      refine goT_round mixed 100 ?_
      simp (disch := omega) [st_eq, upd_eq, tyBB, tyBytes, tySide, lenA, show (i : Int) < 4 by omega, segS_all okd, fa]
      refine callT_of c6 (by simp [noRefs, noRef_side okd]) rfl ?_
      by_cases hrX : r = Y
      · simp (disch := omega) [upd_eq, tyBB, tyBytes, tyStr, fa, show (i : Int) < 4 by omega, convOwn_BS, conv_S, eqlS, hrX, isBoolB, in_i64]
        refine IH _ ⟨?_, ?_⟩
        · simp [upd_eq, refsLt]
        · simp [upd_eq, ms _ okd, ns]
      · simp (disch := omega) [upd_eq, tyBB, tyBytes, tyStr, fa, show (i : Int) < 4 by omega, convOwn_BS, conv_S, eqlSS fB hbB, hrX, isBoolB, in_i64]
        refine IH _ ⟨?_, ?_⟩
        · simp [upd_eq, refsLt]
        · simp [upd_eq, ms _ okd, ns]
    · refine goT_round mixed 30 ?_
      simp (disch := omega) [st_eq, upd_eq, tyBB, lenA, resA_L Try.results4, view, view1, noRef]
    · refine ⟨?_, ?_⟩
      · simp [upd_eq, refsLt]
      · simp [upd_eq, ms _ okd, ns]
  · refine ⟨?_, ?_⟩
    · simp [upd_eq, refsLt]
    · simp [upd_eq, ms _ oks, ms _ okd, ns]
theorem law_SrpProofs (n : Int) (name : ByteArray) (hn : name.size ≤ maxLen) (f1 : Nat → Nat) (h1 : ∀ i, f1 i < 256) (n1 : Nat) (f2 : Nat → Nat) (h2 : ∀ i, f2 i < 256) (n2 : Nat) (f3 : Nat → Nat) (h3 : ∀ i, f3 i < 256) (n3 : Nat) (x : Int) (b8 : Int) (hb : 0 ≤ b8 ∧ b8 < 256) (cut : Int) (f4 : Nat → Nat) (h4 : ∀ i, f4 i < 256) (n4 : Nat) :
    ASpec Try.prog 4 [.int .i64 n, .str name, .ro n1 (famL (u8F f1) n1), .ro n2 (famL (u8F f2) n2), .ro n3 (famL (u8F f3) n3), .int .i64 x, .int .u8 b8, .int .i64 cut, .ro n4 (famL (u8F f4) n4)] (.bool true) := by
  rw [fl_ro, fl_ro, fl_ro, fl_ro]
  exact srpProofs n name _ _ _ x b8 cut _ hb (isB_fl h4 n4)
end Go.Proofs.Ytgefihgogfkjoaa
