/-
  Srp9: the document's Hello and keyed.
-/
import Derived.Test.YtgefihgogfkjoaaSrp8
set_option linter.unusedSimpArgs false
set_option linter.unusedVariables false
namespace Go.Proofs.Ytgefihgogfkjoaa
open Go.Am

theorem rkeyed {s : SD} (hs : s.ok) {salt : List Int} (hsalt : s.salt = roB salt) (hl : salt.length ≤ 100000) (hn : s.name.size ≤ 100000) (S : Nat) : ASpec Try.prog 55 [side s, num S] (side (keyedS s salt S)) := by
  refine ASpec.startX [2] 1000 Try.func55 (fn := Try.f55) rfl (by decide) mixed (by kernel_rfl) (by simp) ?_
  simp (disch := omega) [ini, upd_eq, tyNum, tyRSide, tyBB, tyBytes, build3b]
  rw [convOwn_bl (l := [107, 101, 121]) (n := 3) (f := true) (by simp [upd_eq]) rfl]
  simp (disch := omega) [upd_eq, tyNum]
  refine callT_of (rbytesB S) rfl rfl ?_
  simp (disch := omega) [upd_eq, tyBB, buildBB2 (cellsA_roB _) (cellsA_roB _)]
  obtain ⟨K, hK, hKB, hKl⟩ : ∃ K, K = keyI S ∧ IsB K ∧ K.length = 16 := ⟨_, rfl, isB_keyI S, by simp⟩
  refine callT_view (r := smA K) ?_ (by simp) ?_
  · have hv := fun bk nt hb => view_parts (bk := bk) (nt := nt) (id := 4) (f := true) [[107, 101, 121], numB S] hb
    have h1 := rof _ (few2 (a := [107, 101, 121]) (b := numB S) (by simp) (by simp)).short (by simp)
    rw [show macI [] [[107, 101, 121], numB S] = K from hK.symm] at h1
    simp only [List.map_cons, List.map_nil, List.length_cons, List.length_nil, Nat.zero_add, Nat.reduceAdd] at hv
    simp only [List.map_cons, List.map_nil]
    simp only [hv _ _ (show (upd _ 4 _) 4 = _ from upd_same _ _ _)]
    exact h1
  simp (disch := omega) [upd_eq, tySum, tyRSide, store_smA hKl, putS_key hs.key hKl]
  obtain ⟨s1, hs1⟩ : ∃ s1 : SD, s1 = { s with key := K } := ⟨_, rfl⟩
  rw [← hs1]
  have e1 : s1.name = s.name := by rw [hs1]
  have e2 : s1.salt = roB salt := by rw [hs1]; exact hsalt
  have e3 : s1.key = K := by rw [hs1]
  have e4 : s1.a = s.a := by rw [hs1]
  have e5 : s1.b = s.b := by rw [hs1]
  have ok1 : s1.ok := by rw [hs1]; exact ⟨hKl, hs.proof, hs.pass, hs.salt, hs.passL, hs.saltL⟩
  have ok2 : (keyedS s salt S).ok := keyedS_ok hs salt S
  refine goT_regionZ mixed [15, 16, 28] 100 (by kernel_rfl) ?_
  simp (disch := omega) [upd_eq, tySum, tyRSide, segS_key ok1, e3]
  refine callT_of (rbytesS K hKl) (by simp [noRefs]) rfl ?_
  simp (disch := omega) [upd_eq, tyBytes, tyBB, tyNum, tyStr, tyRSide, noRefs, noRef, frzB1, frzCvB (l := [49]) (by simp), convOwn_diff, conv_strB, e1, e2, e4, e5]
  refine callT_of (rbytesB s.a) rfl rfl ?_
  simp (disch := omega) [upd_eq, tyNum, tyRSide, e5]
  refine callT_of (rbytesB s.b) rfl rfl ?_
  simp (disch := omega) [upd_eq, tyBB, noRefs, noRef, frzBB5]
  obtain ⟨T, hT, hTB, hTl⟩ : ∃ T, T = proofI K (strB s.name) salt s.a s.b ∧ IsB T ∧ T.length = 16 := ⟨_, rfl, isB_proofI _ _ _ _ _, by simp⟩
  have hfin : { s1 with proof := T } = keyedS s salt S := by rw [hT, hs1, hK]; rfl
  have hm := rmac K _ (by omega) (few5 (a := [49]) (b := strB s.name) (c := salt) (d := numB s.a) (e := numB s.b) (by simp) (by simpa using hn) hl (by simp) (by simp)).short (by simp)
  rw [show macI K [[49], strB s.name, salt, numB s.a, numB s.b] = T from hT.symm] at hm
  refine callT_of hm (by simp [noRefs]) (by simp) ?_
  simp (disch := omega) [upd_eq, tySum, tyRSide, store_smA hTl, putS_proof ok1.key ok1.proof hTl, hfin, segS_all ok2, store_side ok2, putS_all side0_ok ok2, resA_L Try.results55, view_side _ ok2]
theorem build_rhello {gB : Int} {P Q G own : Nat} {name : ByteArray} {pass : AV} (hc : cellsA pass = some [pass]) : buildA ⟨92, 328, true, sideL side0, .struct sideF⟩ [(0, group gB P Q G), (1, .str name), (2, pass), (5, num own)] = some (side ⟨gB, P, Q, G, name, pass, 0, 0, own, .nils, 0, z16, z16⟩) := by
  unfold buildA
  simp only
  rw [fill_step rfl (cellsA_group _ _ _ _) (by simp) (putS_G _ _ _ _), fill_step rfl (show cellsA (.str name) = some [.str name] from rfl) rfl (putS_name1 _), fill_step rfl hc rfl (putS_pass1 _),
    fill_step rfl (cellsA_num _) (by simp) (putS_own _)]
  rfl
theorem rhello {gB : Int} {P Q G : Nat} (hG : GOk P Q) (hg : G < P) (name : ByteArray) (pass draw : List Int) (hd : draw.length ≤ 100000) :
    ASpec Try.prog 31 [group gB P Q G, .str name, roB pass, roB draw] (.tup [side (helloS gB P Q G name pass draw), num (G ^ exW Q [[97], draw] % P)]) := by
  refine ASpec.startX [1, 3] 1000 Try.func31 (fn := Try.f31) rfl (by decide) mixed (by kernel_rfl) (by simp) ?_
  have hW := W_big
  have hQ := hG.lt
  have hQ2 := hG.two
  have hQl := hG.low
  simp (disch := omega) [ini, upd_eq, tyNum, tyRSide, tyGroup]
  have hx := exW_range (Q := Q) [[97], draw] (by omega)
  have hh : helloS gB P Q G name pass draw = ⟨gB, P, Q, G, name, roB pass, G ^ exW Q [[97], draw] % P, 0, exW Q [[97], draw], .nils, 0, z16, z16⟩ := rfl
  have hok := helloS_ok gB P Q G name pass draw
  refine goT_regionZ mixed [15, 16, 18] 100 (by kernel_rfl) ?_
  simp (disch := omega) [upd_eq, tyBytes, tyBB, tyGroup, noRefs, noRef, frzB1, frzCvB (l := [97]) (by simp), frzBB2]
  refine callT_of (rexpo (B := gB) (G := G) hG [[97], draw] (few2 (by simp) hd) (by simp)) (by simp [noRefs]) rfl ?_
  generalize exW Q [[97], draw] = E at *
  obtain ⟨s0, hs0⟩ : ∃ s0 : SD, s0 = ⟨gB, P, Q, G, name, roB pass, 0, 0, E, .nils, 0, z16, z16⟩ := ⟨_, rfl⟩
  have ok0 : s0.ok := by rw [hs0]; exact ⟨rfl, rfl, rfl, rfl, rfl, rfl⟩
  have e0 : s0.own = E := by rw [hs0]
  simp (disch := omega) [upd_eq, tyNum, tyGroup, tyRSide, build_rhello (cellsA_roB _)]
  rw [← hs0]
  simp (disch := omega) [upd_eq, tyNum, tyGroup, tyRSide, store_side ok0, putS_all side0_ok ok0, e0]
  have s2 := rraise (B := gB) (P := P) (Q := Q) (G := G) (a := G) (e := E) (by omega) (by omega) (by omega) (by omega)
  refine callT_of s2 (by simp [noRefs]) rfl ?_
  have e1 : ({ s0 with a := G ^ E % P } : SD) = ⟨gB, P, Q, G, name, roB pass, G ^ E % P, 0, E, .nils, 0, z16, z16⟩ := by rw [hs0]
  rw [hh] at hok
  rw [hh]
  generalize G ^ E % P = A at *
  simp (disch := omega) [upd_eq, tyNum, tyGroup, tyRSide]
  rw [e1]
  refine goT_region2 mixed [(29, 8)] 100 (by kernel_rfl) ?_
  simp (disch := omega) [upd_eq, tyNum, tyRSide, segS_all hok, store_side hok, putS_all side0_ok hok]
  refine ⟨by simp [dynOk, ptrNe, upd_eq], ?_⟩
  simp (disch := omega) [upd_eq, tyNum, tyRSide, segS_all hok, resA_L Try.results31, view_side _ hok]
end Go.Proofs.Ytgefihgogfkjoaa
