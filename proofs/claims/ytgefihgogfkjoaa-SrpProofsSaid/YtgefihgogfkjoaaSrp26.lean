/-
  Srp26: SrpRefuses.
-/
import Derived.Test.YtgefihgogfkjoaaSrp25
set_option linter.unusedSimpArgs false
set_option linter.unusedVariables false
namespace Go.Proofs.Ytgefihgogfkjoaa
open Go.Am

/-- Offer, whatever the numbers. -/
theorem offers {gB : Int} {P Q a v : Nat} (hG : GOk P Q) (name : ByteArray) (salt draw : List Int) (hn : name.size ≤ 100000) (hs : salt.length ≤ 100000) (hd : draw.length ≤ 100000) (ha : a < W) (hv : v < W) :
    ∃ (s : SD) (b : Nat) (e : Bool), s.ok ∧ b < W ∧ ASpec Try.prog 16 [group gB P Q 4, rec_ ⟨1, name, roB salt, v⟩, num a, roB draw] (.tup [side s, num b, .bool e]) ∧
      (¬ (HasP P Q a ∧ HasP P Q v) → e = false ∧ b = 0 ∧ s.key = z16) := by
  have h2 := hG.two
  have hl := hG.low
  have hP := hG.lt
  have hW := W_big
  by_cases h : HasP P Q a ∧ HasP P Q v
  · have s1 := goffer (gB := gB) (G := 4) (r := ⟨1, name, roB salt, v⟩) draw hG (by omega) rfl hs hd hn h.1 h.2
    split at s1
    · exact ⟨_, _, _, side0_ok, by omega, s1, fun hh => (hh h).elim⟩
    · refine ⟨_, _, _, keyedS_ok (offI_ok _ _ _ _ _ _ _ _ _) _ _, ?_, s1, fun hh => (hh h).elim⟩
      have : offB P Q 4 v (exW Q [[98], draw]) < P := Nat.mod_lt _ (by omega)
      exact Nat.lt_trans this (by omega)
  · exact ⟨_, _, _, side0_ok, by omega, goffer_bad (gB := gB) (G := 4) (r := ⟨1, name, roB salt, v⟩) draw hG ha hv rfl h, fun _ => ⟨rfl, rfl, rfl⟩⟩
/-- Prove, whatever the number. -/
theorem prove_any {gB : Int} {P Q b : Nat} (hG : GOk P Q) (name : ByteArray) (pass salt p : List Int) (hn : name.size ≤ 100000) (hp : pass.length ≤ 100000) (hs : salt.length ≤ 100000) (hd : p.length ≤ 100000) (hb : b < W) :
    ∃ (d : SD) (m : List Int) (e : Bool), d.ok ∧ m.length = 16 ∧ ASpec Try.prog 18 [side (helloS gB P Q 4 name pass p), roB salt, num b] (.tup [side d, smA m, .bool e]) ∧ (b = 0 ∨ P ≤ b → e = false) := by
  by_cases h : b = 0 ∨ P ≤ b
  · exact ⟨_, _, _, side0_ok, rfl, gprove_bad (s := helloS gB P Q 4 name pass p) (helloS_ok _ _ _ _ _ _ _) salt hb (show P < W by have := hG.lt; have := W_big; omega) h, fun _ => rfl⟩
  · obtain ⟨d, m, e, h1, h2, -, h3, -⟩ := proves (gB := gB) hG name pass salt p hn hp hs hd (b := b) (by omega) (by omega)
    exact ⟨d, m, e, h1, h2, h3, fun hh => (h hh).elim⟩
noncomputable def fiveL (x : Nat → Nat) : List AV := numL (x 0) ++ (numL (x 1) ++ (numL (x 2) ++ (numL (x 3) ++ numL (x 4))))
theorem buildN5 {bk : Nat → Option Blk} {nt : Nat} (x : Nat → Nat) : buildSliceA Try.prog ⟨1, 24, false, [.nils], .slice 27 8 true 32⟩ ⟨bk, nt⟩ 5 [(0, num (x 0)), (1, num (x 1)), (2, num (x 2)), (3, num (x 3)), (4, num (x 4))] = some (.sl nt 0 8 5, ⟨upd bk nt (some ⟨fiveL x, true⟩), nt + 1⟩) := by
  simp only [buildSliceA, tyNum]
  rfl
theorem five_at (x : Nat → Nat) {i : Nat} (hi : i < 5) : segA (fiveL x) (i * 8) 8 = some (num (x i)) := by
  rcases (by omega : i = 0 ∨ i = 1 ∨ i = 2 ∨ i = 3 ∨ i = 4) with rfl | rfl | rfl | rfl | rfl
  · exact segA_left segA_num
  · exact segA_right (off := 0) 8 (by simp) (segA_left segA_num)
  · exact segA_right (off := 8) 8 (by simp) (segA_right (off := 0) 8 (by simp) (segA_left segA_num))
  · exact segA_right (off := 16) 8 (by simp) (segA_right (off := 8) 8 (by simp) (segA_right (off := 0) 8 (by simp) (segA_left segA_num)))
  · exact segA_right (off := 24) 8 (by simp) (segA_right (off := 16) 8 (by simp) (segA_right (off := 8) 8 (by simp) (segA_right (off := 0) 8 (by simp) segA_num)))
theorem arg_nil3 {P : Program} {f : FuncId} {a b d r : AV} (h : ASpec P f [a, b, roB [], d] r) : ASpec P f [a, b, .nils, d] r := by
  refine ASpec.arg (fun M l hl => ?_) h
  obtain ⟨v1, l1, rfl, h1, v2, l2, rfl, h2, v3, l3, rfl, h3, h4⟩ := hl
  exact ⟨v1, _, rfl, h1, v2, _, rfl, h2, v3, _, rfl, nils_ro _ _ _ h3, h4⟩
open Classical in
theorem srpRefuses (n v : Int) (f : Nat → Int) (nn : Nat) (q : List Int) : ASpec Try.prog 5 [.int .i64 n, .int .i64 v, .ro nn (famL (i64F f) nn), roB q] (.bool true) := by
  refine ASpec.startX [12, 18] 1000 Try.func5 (fn := Try.f5) rfl (by decide) mixed (by kernel_rfl) (by simp) ?_
  have hW := W_big
  simp (disch := omega) [ini, upd_eq]
  refine callT_of known7 rfl rfl ?_
  simp (disch := omega) [upd_eq, tyStr, tyBytes, tyBB, buildBB1 (cellsA_roB _)]
  refine callT_view (r := .bool (decide (∀ l ∈ [q], l.length ≤ 64))) ?_ (by simp [flat]) ?_
  · have hv := fun bk nt hb => view_parts (bk := bk) (nt := nt) (id := 0) (f := true) [q] hb
    simp only [List.map_cons, List.map_nil, List.length_cons, List.length_nil, Nat.zero_add, Nat.reduceAdd] at hv
    simp only [List.map_cons, List.map_nil]
    rw [hv _ _ (by simp [upd_eq])]
    exact short _ (by simp)
  by_cases hsh : ∀ l ∈ [q], l.length ≤ 64
  case neg =>
    rw [decide_eq_false hsh]
    simp (disch := omega) [upd_eq, resA_L Try.results5, view, view1, noRef]
  rw [decide_eq_true hsh]
  have z1 := hsh q (by simp)
  obtain ⟨k, Q, N, hs, hk, g1⟩ := group_ n
  have hG : GOk (2 * Q + 1) Q := GOk.of hs hk
  have hP := hG.lt
  have hlow := hG.low
  have h4 := hasG hG
  have hV : HasP (2 * Q + 1) Q (4 ^ 7 % (2 * Q + 1)) := has_pow hG.qr h4 (by decide) (by omega)
  have r1 := rraise (B := k) (P := 2 * Q + 1) (Q := Q) (G := 4) (a := 4) (e := 7) (by omega) (by omega) hP (by omega)
  have he1 := exW_range (Q := Q) [[97], q] (by omega)
  have hA : HasP (2 * Q + 1) Q (4 ^ exW Q [[97], q] % (2 * Q + 1)) := has_pow hG.qr h4 (by omega) (by omega)
  have s1 := hello (gB := k) hG (show 4 < 2 * Q + 1 by omega) ⟨#[117]⟩ [] q (by simp) (by omega)
  have okc := helloS_ok k (2 * Q + 1) Q 4 ⟨#[117]⟩ [] q
  have hof : ∀ a v, a < W → v < W → _ := fun a v ha hv => offers (gB := k) hG ⟨#[117]⟩ [] q (by decide) (by simp) (by omega) (a := a) (v := v) ha hv
  have hpr : ∀ b, b < W → _ := fun b hb => prove_any (gB := k) hG ⟨#[117]⟩ [] [] q (by decide) (by simp) (by simp) (by omega) (b := b) hb
  obtain ⟨w, hw, -, w1⟩ := within7N v (2 * Q + 1) (by omega) (by omega)
  have hP4 : 4 < 2 * Q + 1 := by omega
  have hQP : Q < 2 * Q + 1 := by omega
  generalize 2 * Q + 1 = P at *
  generalize 4 ^ 7 % P = V at *
  generalize 4 ^ exW Q [[97], q] % P = A at *
  generalize helloS k P Q 4 ⟨#[117]⟩ [] q = c at *
  have hVP := hV.2.1
  have hAP := hA.2.1
  have s1 := arg_nil3 s1
  have hM := mkN_lt 1 f nn
  have m1 := make 1 f nn
  generalize mkN 1 f nn = M at *
  have okr : ∀ v, leafOk (RD.salt ⟨1, ⟨#[117]⟩, .nils, v⟩) = true := fun _ => rfl
  have nrr : ∀ v, noRef (rec_ ⟨1, ⟨#[117]⟩, .nils, v⟩) = true := fun _ => noRef_rec rfl
  obtain ⟨x, hx⟩ : ∃ x : Nat → Nat, x = fun i => if i = 0 then 0 else if i = 1 then 1 else if i = 2 then P else if i = 3 then M else w := ⟨_, rfl⟩
  have x0 : x 0 = 0 := by rw [hx]; rfl
  have x1 : x 1 = 1 := by rw [hx]; rfl
  have x2 : x 2 = P := by rw [hx]; rfl
  have x3 : x 3 = M := by rw [hx]; rfl
  have x4 : x 4 = w := by rw [hx]; rfl
  have hxW : ∀ i, x i < W := by
    intro i
    rw [hx]
    simp only
    split
    · omega
    · split
      · omega
      · split
        · omega
        · split <;> omega
  have b5 := fun bk nt => buildN5 (bk := bk) (nt := nt) x
  rw [x0, x1, x2, x3, x4] at b5
  simp (disch := omega) [upd_eq]
  refine callT_of g1 rfl (by simp) ?_
  simp (disch := omega) [upd_eq, tyGroup, tyNum]
  refine callT_of (rfromN 7 (by omega)) rfl rfl ?_
  simp (disch := omega) [upd_eq, tyGroup, tyNum]
  refine callT_of r1 (by simp [noRefs]) rfl ?_
  simp (disch := omega) [upd_eq, tyRec, tyGroup, build_rec3, store_rec (okr _), putR_all]
  refine callT_of s1 (by simp [noRefs, noRef]) (noRef_t2n okc _) ?_
  simp (disch := omega) [upd_eq, tyGroup, tyNum, tySide, store_side okc, putS_all side0_ok okc]
  refine callT_of (rfromN 1 (by omega)) rfl rfl ?_
  simp (disch := omega) [upd_eq, tyGroup, tyNum]
  refine callT_of m1 (by simp [noRefs, noRef]) rfl ?_
  simp (disch := omega) [upd_eq, tyGroup, tyNum]
  refine callT_of (rsmall (n := P) (by omega)) rfl rfl ?_
  simp (disch := omega) [upd_eq, tyGroup, tyNum]
  refine callT_of w1 rfl rfl ?_
  simp (disch := omega) [upd_eq, tyGroup, tyNum]
  refine callT_of (rfromN w (by omega)) rfl rfl ?_
  simp (disch := omega) [upd_eq, tyNums, b5]
  have ns : ∀ m, refsLts m (recL ⟨1, ⟨#[117]⟩, .nils, V⟩) = true := fun m => refsLts_noRefs m _ (noRefs_recL rfl)
  have nr : ∀ ρ, rens ρ (recL ⟨1, ⟨#[117]⟩, .nils, V⟩) = recL ⟨1, ⟨#[117]⟩, .nils, V⟩ := fun ρ => rens_noRefs ρ _ (noRefs_recL rfl)
  have ms : ∀ (s : SD), s.ok → ∀ m, refsLts m (sideL s) = true := fun s h m => refsLts_noRefs m _ (noRefs_sideL h)
  have mr : ∀ (s : SD), s.ok → ∀ ρ, rens ρ (sideL s) = sideL s := fun s h ρ => rens_noRefs ρ _ (noRefs_sideL h)
  have nfl : noRefs (fiveL x) = true := by simp [fiveL, noRefs_append]
  have fs : ∀ m, refsLts m (fiveL x) = true := fun m => refsLts_noRefs m _ nfl
  have fr : ∀ ρ, rens ρ (fiveL x) = fiveL x := fun ρ => rens_noRefs ρ _ nfl
  refine goT_downR (X := Nat) (fun i => 5 - i) (fun i => [(3, roB q), (9, .ptr 1 0), (10, .ptr 2 0), (11, .ptr 3 0), (12, .ptr 4 0), (13, .sl 5 0 8 5), (14, .int .i64 (i : Nat))])
    (fun _ => [(1, ⟨groupL k P Q 4, true⟩), (2, ⟨recL ⟨1, ⟨#[117]⟩, .nils, V⟩, true⟩), (3, ⟨sideL c, true⟩), (4, ⟨numL A, true⟩), (5, ⟨fiveL x, true⟩)]) 6
    (fun i => i ≤ 5) ?_ 0 (fun i => i) (by decide) ?_
  · intro i hi IH
    refine goT_round mixed 100 ?_
    by_cases hend : i = 5
    · simp (disch := omega) [st_eq, upd_eq, tyNums, lenA, hend, resA_L Try.results5, view, view1, noRef]
    have hi5 : i < 5 := by omega
    have fa := five_at x hi5
    have hXi := hxW i
    obtain ⟨S1, b1, e1, okS1, hb1, o1, n1⟩ := hof (x i) V hXi (by omega)
    obtain ⟨S2, b2, e2, okS2, hb2, o2, n2⟩ := hof A (x i) (by omega) hXi
    obtain ⟨D, m, e3, okD, hml, p1, n3⟩ := hpr (x i) hXi
    have o1 := arg_rec o1
    have o2 := arg_rec o2
    have p1 := arg_nil2 p1
    have hh := rhas (B := k) (P := P) (Q := Q) (G := 4) (a := x i) hXi (by omega) hP (by omega)
    have hcm := rcmp (x i) P hXi (by omega)
    have hq0 := eql_num hXi (show 0 < W by omega)
    obtain ⟨X, hX⟩ : ∃ X, X = x i := ⟨_, rfl⟩
    rw [← hX] at fa hXi o1 n1 o2 n2 p1 n3 hh hcm hq0
    clear hof hpr s1 m1 g1 r1 w1 b5 hX
    simp (disch := omega) [st_eq, upd_eq, tyNums, lenA, show (i : Int) < 5 by omega]
    refine goT_region3 mixed 12 (by kernel_rfl) (by kernel_rfl) rfl 8
      [(3, roB q), (9, .ptr 1 0), (10, .ptr 2 0), (11, .ptr 3 0), (12, .ptr 4 0), (13, .sl 5 0 8 5), (14, .int .i64 (i : Nat)), (15, .ptr 6 0), (16, .ptr 7 0), (17, .bool e1)]
      [(1, ⟨groupL k P Q 4, true⟩), (2, ⟨recL ⟨1, ⟨#[117]⟩, .nils, V⟩, true⟩), (3, ⟨sideL c, true⟩), (4, ⟨numL A, true⟩), (5, ⟨fiveL x, true⟩), (6, ⟨sideL S1, true⟩), (7, ⟨numL b1, true⟩)] ?_ ?_
    · refine goT_run mixed 900 ?_
      simp (disch := omega) [st_eq, upd_eq, tyNums, tyNum, tyRec, tyGroup, store_rec (okr _), putR_all, putR_v, fa, show (i : Int) < 5 by omega]
      refine callT_of o2 (by simp [noRefs, nrr]) (noRef_t3n okS2 _ _) ?_
      simp (disch := omega) [upd_eq, tyNums, tyNum, tyGroup, tySide, store_side okS2, putS_all side0_ok okS2, fa, show (i : Int) < 5 by omega]
      refine callT_of hh (by simp [noRefs]) rfl ?_
      by_cases hH : HasP P Q X
      simp (disch := omega) [upd_eq, hH]
      rotate_left 1
      obtain ⟨rfl, rfl, hk1⟩ := n1 fun h => hH h.1
      obtain ⟨rfl, -, -⟩ := n2 fun h => hH h.2
      simp (disch := omega) [upd_eq, hH, tyNum, tySide, tySum, neq_num (show 0 < W by omega) (show 0 < W by omega), segS_key okS1, hk1, build_z16, neq_sum z16_length z16_length]
      all_goals
        refine goT_region3 mixed 10 (by kernel_rfl) (by kernel_rfl) rfl 13
          [(3, roB q), (9, .ptr 1 0), (10, .ptr 2 0), (11, .ptr 3 0), (12, .ptr 4 0), (13, .sl 5 0 8 5), (14, .int .i64 (i : Nat)), (24, .bool e3)]
          [(1, ⟨groupL k P Q 4, true⟩), (2, ⟨recL ⟨1, ⟨#[117]⟩, .nils, V⟩, true⟩), (3, ⟨sideL c, true⟩), (4, ⟨numL A, true⟩), (5, ⟨fiveL x, true⟩)] ?_ ?_
        · refine goT_run mixed 900 ?_
          have last : ∀ σ' : AS, Weak (fun i => i) [(3, roB q), (9, .ptr 1 0), (10, .ptr 2 0), (11, .ptr 3 0), (12, .ptr 4 0), (13, .sl 5 0 8 5), (14, .int .i64 ((i + 1 : Nat) : Int))]
              [(1, ⟨groupL k P Q 4, true⟩), (2, ⟨recL ⟨1, ⟨#[117]⟩, .nils, V⟩, true⟩), (3, ⟨sideL c, true⟩), (4, ⟨numL A, true⟩), (5, ⟨fiveL x, true⟩)] 6 σ' → _ := fun σ' h => IH (i + 1) σ' (fun i => i) (by omega) (by omega) h
          cases e3
          · simp (disch := omega) [st_eq, upd_eq, in_i64]
            refine last _ ⟨?_, ?_, fun _ _ _ _ h => h⟩
            · simp [upd_eq, ren, refsLt]
            · simp [upd_eq, ns, nr, ms _ okc, mr _ okc, fs, fr]
          · have hn : ¬ (X = 0 ∨ P ≤ X) := fun h => by have := n3 h; cases this
            have hX0 : X ≠ 0 := fun h => hn (.inl h)
            have hc : ¬ 0 ≤ cmpZ X P := by have := cmp_geq (a := X) (b := P); rw [Bool.eq_iff_iff] at this; simp only [decide_eq_true_eq] at this; omega
            simp (disch := omega) [st_eq, upd_eq, tyNums, tyNum, tyGroup, fa, show (i : Int) < 5 by omega, hq0, hX0]
            refine callT_of hcm (by simp [noRefs]) rfl ?_
            simp (disch := omega) [upd_eq, hc, in_i64]
            refine last _ ⟨?_, ?_, fun _ _ _ _ h => h⟩
            · simp [upd_eq, ren, refsLt]
            · simp [upd_eq, ns, nr, ms _ okc, mr _ okc, fs, fr]
        · simp (disch := omega) [upd_eq, tyNums, tyNum, tySide, segS_all okc, fa, show (i : Int) < 5 by omega]
          refine callT_of p1 (by simp [noRefs, noRef, noRef_side okc]) (noRef_t3 okD _ _) ?_
          simp (disch := omega) [upd_eq, tyNum, tySide, tySum, store_side okD, putS_all side0_ok okD, store_smA hml, putSeg_bl (l := z16) (m := m) (by simp [hml])]
          refine ⟨⟨?_, ?_, ?_⟩, ⟨fun i => if i = 11 then 12 else if i = 12 then 11 else i, ?_, ?_, ?_⟩⟩
          · simp [upd_eq, ren, refsLt]
          · simp [upd_eq, ns, nr, ms _ okc, mr _ okc, fs, fr]
          · exact fun _ _ _ _ h => h
          · simp [upd_eq, ren, refsLt]
          · simp [upd_eq, ns, nr, ms _ okc, mr _ okc, fs, fr]
          · exact swapI 11 12 _
    · simp (disch := omega) [upd_eq, tyNums, tyNum, tyRec, tyGroup, fa, show (i : Int) < 5 by omega]
      refine callT_of o1 (by simp [noRefs, nrr]) (noRef_t3n okS1 _ _) ?_
      simp (disch := omega) [upd_eq, tyNum, tySide, store_side okS1, putS_all side0_ok okS1]
      refine ⟨⟨?_, ?_, ?_⟩, ⟨fun i => if i = 6 then 7 else if i = 7 then 6 else i, ?_, ?_, ?_⟩⟩
      · simp [upd_eq, ren, refsLt]
      · simp [upd_eq, ns, nr, ms _ okS1, mr _ okS1, ms _ okc, mr _ okc, fs, fr]
      · exact fun _ _ _ _ h => h
      · simp [upd_eq, ren, refsLt]
      · simp [upd_eq, ns, nr, ms _ okS1, mr _ okS1, ms _ okc, mr _ okc, fs, fr]
      · exact swapI 6 7 _
  · refine ⟨?_, ?_, fun _ _ _ _ h => h⟩
    · simp [upd_eq, ren, refsLt]
    · simp [upd_eq, ns, nr, ms _ okc, mr _ okc, fs, fr]
theorem law_SrpRefuses (n v : Int) (f : Nat → Int) (nn : Nat) (g : Nat → Nat) (h1 : ∀ i, g i < 256) (n1 : Nat) :
    ASpec Try.prog 5 [.int .i64 n, .int .i64 v, .ro nn (famL (i64F f) nn), .ro n1 (famL (u8F g) n1)] (.bool true) := by
  rw [fl_ro]
  exact srpRefuses n v f nn _
end Go.Proofs.Ytgefihgogfkjoaa
