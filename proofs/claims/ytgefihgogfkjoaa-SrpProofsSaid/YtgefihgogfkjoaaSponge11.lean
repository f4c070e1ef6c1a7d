/-
  Sponge11: the document's sums.
-/
import Derived.Test.YtgefihgogfkjoaaSponge10
set_option linter.unusedSimpArgs false
set_option linter.unusedVariables false
namespace Go.Proofs.Ytgefihgogfkjoaa
open Go.Am

theorem absorbN_snoc : ∀ (q : Nat) (f : Nat → Int) (l : List Int), absorbN (q + 1) f l = blockI (absorbN q f l) (l.drop (16 * q))
  | 0, f, l => by simp [absorbN]
  | q + 1, f, l => by
    have := absorbN_snoc q (blockI f l) (l.drop 16)
    rw [List.drop_drop, show 16 + 16 * q = 16 * (q + 1) by omega] at this
    exact this
theorem gI_drop (l : List Int) (n i : Nat) : gI (l.drop n) i = gI l (n + i) := by
  simp [gI, List.getD_eq_getElem?_getD, List.getElem?_drop]
theorem padI_app {A c : List Int} (h : A.length % 16 = 0) : padI (A ++ c) = A ++ padI c := by
  have : zpad (A ++ c).length = zpad c.length := by
    unfold zpad
    rw [List.length_append, show (A.length + c.length) % 16 = c.length % 16 by omega]
  rw [padI, padI, this, List.append_assoc]
theorem raw_all (key L : List Int) : absorb (fun _ => 0) (padI (padI (eightI (key.length : Nat) ++ key) ++ (L ++ [128]))) = absorb (newF key) (padI (L ++ [128])) := by
  have h := padI_len (eightI (key.length : Nat) ++ key)
  rw [padI_app h, absorb_app, restI_mod h]
  rfl

theorem blkF_step (f : Nat → Int) (l : List Int) (i : Nat) : upd (blkF f l i) i (x32 (blkF f l i i) (ldW l i)) = blkF f l (i + 1) := by
  funext k
  simp only [upd_eq, blkF]
  by_cases hk : k = i
  · subst hk; simp
  · by_cases hk2 : k < i
    · simp [hk, hk2, show k < i + 1 by omega]
    · simp [hk, hk2, show ¬ k < i + 1 by omega]
theorem Src.slk {l : List Int} {bk : Nat → Option Blk} {nt id j k : Nat} {f : Bool} (hj : j < nt) (hne : j ≠ id) (hb : bk j = some ⟨bl l, f⟩) (hk : l.length = k) : Src (.sl j 0 1 k) l bk nt id := by
  subst hk; exact Src.sl hj hne hb
theorem rraw (k : AV) (key L : List Int) (hk : k = roB key ∨ (k = .nils ∧ key = [])) (hkl : key.length ≤ 400000000000) (hL : L.length ≤ 400000000000) : ASpec Try.prog 71 [k, roB L] (smA (rawI key L)) := by
  refine ASpec.start 1000 Try.func71 (fn := Try.f71) rfl (by decide) mixed (by kernel_rfl) (by simp) ?_
  have hlen : ∀ h, lenA ⟨1, 24, false, [.nils], .slice 5 1 false 1⟩ h k = some key.length := by
    intro h
    rcases hk with rfl | ⟨rfl, rfl⟩ <;> rfl
  have hsrc : ∀ h, srcA 1 h k = some (key.length, bl key) := by
    intro h
    rcases hk with rfl | ⟨rfl, rfl⟩
    · exact srcA_roB h key
    · rfl
  simp (disch := omega) [ini, upd_eq, tySum, tyBytes, hlen]
  refine callT_own (first := []) (caps := []) (reightP _) ?_
  rintro _ ⟨bk1, nt1⟩ hn1 ⟨j1, f1, h1, h2, rfl, h3, h4⟩
  simp only [eightI_length] at hn1 h1 h2 h3 h4 ⊢
  have e0 : bk1 0 = some ⟨bl z16, true⟩ := by rw [h4 0 (by omega)]; simp [upd_eq]
  have ht8 : (eightI (key.length : Nat)).take 8 = eightI (key.length : Nat) := List.take_of_length_le (by simp)
  simp (disch := omega) [upd_eq, tyBytes, appendA, appendB, hsrc, h3, zOkU8, HP.move, bl_take, bl_app, show 8 + key.length ≤ 70368744177664 by omega, show 8 + key.length ≤ 4611686018427387904 by omega, ht8]
  obtain ⟨A0, hA0, hA0l⟩ : ∃ A0, A0 = eightI (key.length : Nat) ++ key ∧ A0.length = 8 + key.length := ⟨_, rfl, by simp⟩
  rw [← hA0]
  refine callT_own (first := []) (caps := []) (rpadded A0 (.sl nt1 0 1 (8 + key.length)) (by omega) (Src.slk (f := false) (by omega) (by omega) (by simp [upd_eq]) hA0l)) ?_
  rintro _ ⟨bk2, nt2⟩ hn2 ⟨j2, f2, k1, k2, rfl, k3, k4⟩
  simp only at hn2 k1 k2 k3 k4 ⊢
  have e1 : bk2 0 = some ⟨bl z16, true⟩ := by rw [k4 0 (by omega)]; simp [upd_eq, e0, show (0 : Nat) ≠ j1 by omega, show (0 : Nat) ≠ nt1 by omega]
  have hp0 := padI_len A0
  have hp1 : (padI A0).length ≤ 400000000100 := by simp [padI, zpad]; omega
  obtain ⟨B, hB⟩ : ∃ B, B = padI A0 := ⟨_, rfl⟩
  rw [← hB] at hp0 hp1 k3 ⊢
  have hj2 : nt2 ≠ j2 := by omega
  simp (disch := omega) [upd_eq, tyBytes, appendA, appendB, srcA_roB, k3, zOkU8, HP.move, bl_take, bl_app, show B.length + L.length ≤ 70368744177664 by omega, show B.length + L.length ≤ 4611686018427387904 by omega, build1b]
  have htB : (B ++ L).take (B.length + L.length) = B ++ L := List.take_of_length_le (by simp)
  simp (disch := omega) [upd_eq, srcA, bl_take, bl_app, htB, show B.length + L.length + 1 ≤ 70368744177664 by omega, show B.length + L.length + 1 ≤ 4611686018427387904 by omega]
  obtain ⟨A1, hA1, hA1l⟩ : ∃ A1, A1 = B ++ (L ++ [128]) ∧ A1.length = B.length + L.length + 1 := ⟨_, rfl, by simp; omega⟩
  rw [← hA1]
  refine callT_own (first := []) (caps := []) (rpadded A1 (.sl (nt2 + 1 + 1) 0 1 (B.length + L.length + 1)) (by omega) (Src.slk (f := false) (by omega) (by omega) (by simp [upd_eq]) hA1l)) ?_
  rintro _ ⟨bk3, nt3⟩ hn3 ⟨j3, f3, m1, m2, rfl, m3, m4⟩
  simp only at hn3 m1 m2 m3 m4 ⊢
  have e2 : bk3 0 = some ⟨bl z16, true⟩ := by rw [m4 0 (by omega)]; simp [upd_eq, e1, show (0 : Nat) ≠ j2 by omega, show (0 : Nat) ≠ nt2 by omega]
  have hall : absorb (fun _ => 0) (padI A1) = absorb (newF key) (padI (L ++ [128])) := by rw [hA1, hB, hA0]; exact raw_all key L
  have hp2 := padI_len A1
  have hp3 : (padI A1).length ≤ 800000000200 := by simp [padI, zpad]; omega
  obtain ⟨A, hA⟩ : ∃ A, A = padI A1 := ⟨_, rfl⟩
  rw [← hA] at hp2 hp3 m3 hall ⊢
  have n3 : (0 : Nat) ≠ nt3 := by omega
  have n4 : j3 ≠ nt3 := by omega
  have n5 : (0 : Nat) ≠ j3 := by omega
  simp (disch := omega) [upd_eq, tyWords, tyBytes]
  obtain ⟨N, hN⟩ : ∃ N, A.length = 16 * N := ⟨A.length / 16, by omega⟩
  refine goT_downS (X := Nat) (fun q => N - q) (fun q => stH [(4, .ptr 0 0), (5, .sl j3 0 1 A.length), (6, .ptr nt3 0), (7, .int .i64 (16 * q : Nat))]
      ⟨fun j => if j = 0 then some ⟨bl z16, true⟩ else if j = j3 then some ⟨bl A, f3⟩ else if j = nt3 then some ⟨w8 (absorbN q (fun _ => 0) A), true⟩ else none, nt3 + 1⟩)
    (fun q => q ≤ N) ?_ 0 (Nat.zero_le _) ?_
  · intro q hq IH
    refine goT_round mixed 100 ?_
    obtain ⟨W, hW⟩ : ∃ W, W = absorbN q (fun _ => 0) A := ⟨_, rfl⟩
    rw [← hW]
    by_cases hend : q = N
    · subst hend
      have hWf : W = absorb (newF key) (padI (L ++ [128])) := by rw [hW, ← hall, absorb, hN, Nat.mul_div_cancel_left _ (by decide)]
      have n6 : (0 : Nat) ≠ nt3 + 1 := by omega
      have g7 : (w8 W)[7]? = some (.int .u32 (W 7)) := w8_get7
      simp (disch := omega) [stH_eq, upd_eq, tyWords, tyBytes, tyU32, lenA, Ne.symm n5, show ¬ (16 * (q : Int)) < A.length by omega, Ne.symm n3, Ne.symm n4, g7, store_int, w8_set, x32_eq]
      refine callT_of (rmix _) rfl rfl ?_
      have hm : mixI (upd W 7 (x32 (W 7) 1)) = finF W := rfl
      rw [hm]
      obtain ⟨F, hF⟩ : ∃ F, F = finF W := ⟨_, rfl⟩
      rw [← hF]
      simp (disch := omega) [upd_eq, tyWords, tySum, Ne.symm n3, Ne.symm n4]
      refine goT_downS (X := Nat) (fun i => 16 - i) (fun i => stH [(4, .ptr 0 0), (6, .ptr nt3 0), (10, .ptr (nt3 + 1) 0), (11, .int .i64 (i : Nat))]
          ⟨fun j => if j = 0 then some ⟨bl z16, true⟩ else if j = nt3 then some ⟨w8 F, true⟩ else if j = nt3 + 1 then some ⟨mixL (sumAt F) (fun _ => .int .u8 0) 16 i, true⟩ else none, nt3 + 2⟩)
        (fun i => i ≤ 16) ?_ 0 (by decide) ?_
      · intro i hi IH3
        refine goT_round mixed 100 ?_
        by_cases h16 : i = 16
        · subst h16
          have ha : mixL (sumAt F) (fun _ => AV.int .u8 0) 16 16 = bl (sumB F) := by rw [mixL_all, sumAt_bl]
          have sg : segA (bl (sumB F)) 0 16 = some (smA (sumB F)) := segA_bl (by simp)
          have ps : putSeg (bl z16) 0 (bl (sumB F)) = some (bl (sumB F)) := putSeg_bl (by simp)
          simp (disch := omega) [stH_eq, upd_eq, tySum, ha, sg, store_smA (l := sumB F) (by simp), ps, Ne.symm n3, resA_L Try.results71]
          rw [hF, hWf]; rfl
        · have hi16 : i < 16 := by omega
          have q1 : ((i : Int) / 4).toNat = i / 4 := by omega
          have w1 : IntKind.i64.wrap ((i : Int) / 4) = (i : Int) / 4 := in_i64 (by omega) (by omega)
          have w2 : IntKind.i64.wrap (8 * ((i : Int) % 4)) = 8 * ((i : Int) % 4) := in_i64 (by omega) (by omega)
          have w4 : IntKind.u64.wrap (8 * ((i : Int) % 4)) = ((8 * (i % 4) : Nat) : Int) := by rw [in_u64 (by omega) (by omega)]; omega
          have w3 : min (8 * (i % 4)) 32 = 8 * (i % 4) := by omega
          have gF : (w8 F)[i / 4]? = some (.int .u32 (F (i / 4))) := w8_get (by omega)
          have b1 : 0 ≤ (i : Int) / 4 ∧ (i : Int) / 4 < 8 := by omega
          have hset : ∀ v : AV, v = sumAt F i → (mixL (sumAt F) (fun _ => .int .u8 0) 16 i).set i v = mixL (sumAt F) (fun _ => .int .u8 0) 16 (i + 1) := fun v hv => mixL_set hv
          simp (disch := omega) [stH_eq, upd_eq, tySum, tyWords, tyU32, tyU8, tyInt, tyUint, Ne.symm n3, show (i : Int) < 16 by omega, hi16, binA_quo, binA_rem, q1, w1, w2, w4, w3, gF, b1, binA_shr, IntKind.bits, convOwn_diff, store_int, in_i64]
          refine IH3 (i + 1) _ (by omega) (by omega) (Am.Sub.of (by simp) (by simp [upd_eq]) fun j b hb' => ?_)
          have e : (8 * ((i : Int) % 4)).toNat = 8 * (i % 4) := by omega
          have hs2 := hset (.int .u8 (IntKind.u8.wrap (F (i / 4) / 2 ^ (8 * (i % 4))))) rfl
          simp only [upd_eq, e] at hb' ⊢
          by_cases hj : j = nt3 + 1
          · subst hj; simpa [hs2] using hb'
          · simpa [hj] using hb'
      · refine Am.Sub.of (by simp) (by simp [upd_eq]) fun j b hb' => ?_
        simp only [mixL_zero, ← zero16] at hb'
        simp only [upd_eq] at hb' ⊢
        by_cases hj0 : j = 0
        · subst hj0; simpa [n3, n6] using hb'
        · by_cases hj4 : j = nt3
          · subst hj4; simpa [hj0] using hb'
          · by_cases hj5 : j = nt3 + 1
            · subst hj5; simpa using hb'
            · simp [hj0, hj4, hj5] at hb'
    · have hqN : q < N := by omega
      simp (disch := omega) [stH_eq, upd_eq, tyWords, tyBytes, lenA, Ne.symm n5, show (16 * (q : Int)) < A.length by omega]
      refine goT_downS (X := Nat) (fun w => 4 - w) (fun w => stH [(4, .ptr 0 0), (5, .sl j3 0 1 A.length), (6, .ptr nt3 0), (7, .int .i64 (16 * q : Nat)), (8, .int .i64 (w : Nat))]
          ⟨fun j => if j = 0 then some ⟨bl z16, true⟩ else if j = j3 then some ⟨bl A, f3⟩ else if j = nt3 then some ⟨w8 (blkF W (A.drop (16 * q)) w), true⟩ else none, nt3 + 1⟩)
        (fun w => w ≤ 4) ?_ 0 (by decide) ?_
      · intro w hw IH2
        refine goT_round mixed 100 ?_
        by_cases h4 : w = 4
        · subst h4
          simp (disch := omega) [stH_eq, upd_eq, tyWords, Ne.symm n3, Ne.symm n4]
          refine callT_of (rmix _) rfl rfl ?_
          simp (disch := omega) [upd_eq, tyWords, Ne.symm n3, Ne.symm n4, tyInt, in_i64]
          refine IH (q + 1) _ (by omega) (by omega) (Am.Sub.of (by simp) (by simp [upd_eq]; omega) fun j b hb' => ?_)
          have e : absorbN (q + 1) (fun _ => 0) A = mixI (blkF W (A.drop (16 * q)) 4) := by rw [absorbN_snoc, hW]; rfl
          rw [e] at hb'
          simp only [upd_eq] at hb' ⊢
          by_cases hj4 : j = nt3
          · subst hj4; simpa [Ne.symm n3, Ne.symm n4] using hb'
          · simpa [hj4] using hb'
        · have hw4 : w < 4 := by omega
          have c0 : IntKind.i64.wrap (4 * (w : Int)) = 4 * (w : Int) := in_i64 (by omega) (by omega)
          have c1 : IntKind.i64.wrap (16 * (q : Int) + 4 * (w : Int)) = 16 * (q : Int) + 4 * (w : Int) := in_i64 (by omega) (by omega)
          have c2 : IntKind.i64.wrap (16 * (q : Int) + 4 * (w : Int) + 1) = 16 * (q : Int) + 4 * (w : Int) + 1 := in_i64 (by omega) (by omega)
          have c3 : IntKind.i64.wrap (16 * (q : Int) + 4 * (w : Int) + 2) = 16 * (q : Int) + 4 * (w : Int) + 2 := in_i64 (by omega) (by omega)
          have c4 : IntKind.i64.wrap (16 * (q : Int) + 4 * (w : Int) + 3) = 16 * (q : Int) + 4 * (w : Int) + 3 := in_i64 (by omega) (by omega)
          have t0 : (16 * (q : Int) + 4 * (w : Int)).toNat = 16 * q + 4 * w := by omega
          have t1 : (16 * (q : Int) + 4 * (w : Int) + 1).toNat = 16 * q + 4 * w + 1 := by omega
          have t2 : (16 * (q : Int) + 4 * (w : Int) + 2).toNat = 16 * q + 4 * w + 2 := by omega
          have t3 : (16 * (q : Int) + 4 * (w : Int) + 3).toNat = 16 * q + 4 * w + 3 := by omega
          have b0 : 0 ≤ 16 * (q : Int) + 4 * (w : Int) ∧ 16 * (q : Int) + 4 * (w : Int) < A.length := by omega
          have b1 : 0 ≤ 16 * (q : Int) + 4 * (w : Int) + 1 ∧ 16 * (q : Int) + 4 * (w : Int) + 1 < A.length := by omega
          have b2 : 0 ≤ 16 * (q : Int) + 4 * (w : Int) + 2 ∧ 16 * (q : Int) + 4 * (w : Int) + 2 < A.length := by omega
          have b3 : 0 ≤ 16 * (q : Int) + 4 * (w : Int) + 3 ∧ 16 * (q : Int) + 4 * (w : Int) + 3 < A.length := by omega
          have g0 : (bl A)[16 * q + 4 * w]? = some (.int .u8 (gI (A.drop (16 * q)) (4 * w))) := by rw [gI_drop]; exact bl_get (by omega)
          have g1 : (bl A)[16 * q + 4 * w + 1]? = some (.int .u8 (gI (A.drop (16 * q)) (4 * w + 1))) := by rw [gI_drop]; exact bl_get (by omega)
          have g2 : (bl A)[16 * q + 4 * w + 2]? = some (.int .u8 (gI (A.drop (16 * q)) (4 * w + 2))) := by rw [gI_drop]; exact bl_get (by omega)
          have g3 : (bl A)[16 * q + 4 * w + 3]? = some (.int .u8 (gI (A.drop (16 * q)) (4 * w + 3))) := by rw [gI_drop]; exact bl_get (by omega)
          obtain ⟨D, hD⟩ : ∃ D, D = A.drop (16 * q) := ⟨_, rfl⟩
          rw [← hD] at g0 g1 g2 g3 IH2 ⊢
          have gw : (w8 (blkF W D w))[w]? = some (.int .u32 (blkF W D w w)) := w8_get (by omega)
          simp (disch := omega) [stH_eq, upd_eq, tyWords, tyBytes, tyU8, tyU32, tyInt, show (w : Int) < 4 by omega, c0, c1, c2, c3, c4, t0, t1, t2, t3, b0, b1, b2, b3, g0, g1, g2, g3, gw, show w < 8 by omega, show (w : Int) < 8 by omega, Ne.symm n3, Ne.symm n4, Ne.symm n5, n4, convOwn_diff, binA_shl, IntKind.bits, store_int, w8_set, in_i64]
          refine IH2 (w + 1) _ (by omega) (by omega) (Am.Sub.of (by simp) (by simp [upd_eq]) fun j b hb' => ?_)
          have e : upd (blkF W D w) w (x32 (blkF W D w w) (ldW D w)) = blkF W D (w + 1) := blkF_step W D w
          have e2 : w8 (upd (blkF W D w) w (bitsA .xor .u32 (blkF W D w w) (ldW D w))) = w8 (blkF W D (w + 1)) := by rw [← e]; rfl
          rw [← e2] at hb'
          simp only [upd_eq] at hb' ⊢
          by_cases hj0 : j = 0
          · subst hj0; simpa [n3] using hb'
          · by_cases hj3 : j = j3
            · subst hj3; simpa [hj0, n4] using hb'
            · by_cases hj4 : j = nt3
              · subst hj4; simpa [hj0, hj3, ldW, ldw] using hb'
              · simp [hj0, hj3, hj4] at hb'
      · refine Am.Sub.of (by simp) (by simp [upd_eq]) fun j b hb' => ?_
        have e : blkF W (A.drop (16 * q)) 0 = W := by funext k; simp [blkF]
        rw [e] at hb'
        exact hb'
  · refine Am.Sub.of (by simp) (by simp [upd_eq]) fun j b hb' => ?_
    have e : absorbN 0 (fun _ => 0) A = fun _ => 0 := rfl
    rw [e] at hb'
    simp only [upd_eq] at hb' ⊢
    by_cases hj0 : j = 0
    · subst hj0; simpa [n3, e2] using hb'
    · by_cases hj3 : j = j3
      · subst hj3; simpa [hj0, n4, m3] using hb'
      · by_cases hj4 : j = nt3
        · subst hj4; simpa [hj0, hj3] using hb'
        · simp [hj0, hj3, hj4] at hb'
end Go.Proofs.Ytgefihgogfkjoaa
