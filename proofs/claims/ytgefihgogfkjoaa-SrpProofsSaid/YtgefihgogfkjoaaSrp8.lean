/-
  Srp8: Hello.
-/
import Derived.Test.YtgefihgogfkjoaaSrp7
set_option linter.unusedSimpArgs false
set_option linter.unusedVariables false
namespace Go.Proofs.Ytgefihgogfkjoaa
open Go.Am

theorem ASpec.out {P : Program} {f : FuncId} {args : List AV} {r r' : AV} (hr : ∀ M v, VRel M false r v → VRel M false r' v) (h : ASpec P f args r) : ASpec P f args r' :=
  ⟨h.1, fun O w vs hO hv => (h.2 O w vs hO hv).mono fun e w' ⟨v, h1, h2, h3⟩ => ⟨v, h1, h2, hr _ _ h3⟩⟩
theorem ASpec.arg {P : Program} {f : FuncId} {args args' : List AV} {r : AV} (ha : ∀ M l, VRels M false args l → VRels M false args' l) (h : ASpec P f args' r) : ASpec P f args r :=
  ⟨h.1, fun O w vs hO hv => h.2 O w vs hO (ha _ _ hv)⟩
theorem nils_ro (M : Mem) (r : Bool) (v : Value) (h : VRel M r .nils v) : VRel M r (roB []) v := by
  simp only [VRel] at h
  subst h
  exact ⟨none, 0, rfl, Nat.le_refl _, .inl rfl⟩
theorem gclone (l : List Int) (hl : l.length ≤ 1000000000000) : ASpec Try.prog 44 [roB l] (roB l) := by
  by_cases h0 : l = []
  · subst h0
    refine ⟨(clone_nil 0).1, fun O w vs hO hv => ?_⟩
    obtain ⟨v, vs', rfl, hv1, hv2⟩ := hv
    obtain ⟨base, cap, rfl, _, _⟩ := hv1
    cases hv2
    cases base with
    | none =>
      refine ((clone_nil cap).2 O w _ hO ⟨_, [], rfl, rfl, rfl⟩).mono ?_
      rintro e w' ⟨v, h1, h2, h3⟩
      exact ⟨v, h1, h2, nils_ro _ _ _ h3⟩
    | some a =>
      have s : ASpec Try.prog 44 [.exact (.slice (some a) 0 cap)] (roB []) := by
        refine ASpec.start 1000 Try.func44 (fn := Try.f44) rfl (by decide) mixed (by kernel_rfl) (by simp) ?_
        simp (disch := omega) [ini, upd_eq, clone_ex, tyBytes, build0b]
        simp (disch := omega) [upd_eq, appendA, appendB, srcA, zOkU8, HP.move, resA_L Try.results44]
        exact view_slb (l := []) (f := false) (by simp [upd_eq]; rfl) rfl
      exact s.2 O w _ hO ⟨_, [], rfl, rfl, rfl⟩
  · refine ASpec.start 1000 Try.func44 (fn := Try.f44) rfl (by decide) mixed (by kernel_rfl) (by simp) ?_
    simp (disch := omega) [ini, upd_eq, clone_ro h0, tyBytes, build0b]
    simp (disch := omega) [upd_eq, appendA, appendB, srcA_roB, zOkU8, HP.move, show l.length ≤ 70368744177664 by omega, show l.length ≤ 4611686018427387904 by omega, resA_L Try.results44]
    exact view_slb (l := l) (f := false) (by simp [upd_eq]) rfl

noncomputable def helloS (gB : Int) (P Q G : Nat) (name : ByteArray) (pass draw : List Int) : SD := ⟨gB, P, Q, G, name, roB pass, G ^ exW Q [[97], draw] % P, 0, exW Q [[97], draw], .nils, 0, z16, z16⟩
theorem helloS_ok (gB : Int) (P Q G : Nat) (name : ByteArray) (pass draw : List Int) : (helloS gB P Q G name pass draw).ok := ⟨rfl, rfl, rfl, rfl, rfl, rfl⟩
section
variable {s : SD}
theorem putS_G (B : Int) (P Q G : Nat) : putSeg (sideL s) 0 (groupL B P Q G) = some (sideL { s with gB := B, gP := P, gQ := Q, gG := G }) := putSeg_left (putSeg_left (putG_all _ _ _ _ _ _ _ _))
theorem putS_name1 (n : ByteArray) : putSeg (sideL s) 25 [.str n] = some (sideL { s with name := n }) := putSeg_left (putSeg_right (off := 0) 25 (by simp) (putSeg_left (by rfl)))
theorem putS_pass1 (x : AV) : putSeg (sideL s) 26 [x] = some (sideL { s with pass := x }) := putSeg_left (putSeg_right (off := 1) 25 (by simp) (putSeg_left (by rfl)))
theorem putS_own (n : Nat) : putSeg (sideL s) 43 (numL n) = some (sideL { s with own := n }) := putSeg_left (putSeg_right (off := 18) 25 (by simp) (putSeg_right (off := 16) 2 rfl (putSeg_right (off := 8) 8 (by simp) (putSeg_right (off := 0) 8 (by simp) (putSeg_left putSeg_num)))))
theorem putS_salt1 (x : AV) : putSeg (sideL s) 51 [x] = some (sideL { s with salt := x }) :=
  putSeg_left (putSeg_right (off := 26) 25 (by simp) (putSeg_right (off := 24) 2 rfl (putSeg_right (off := 16) 8 (by simp) (putSeg_right (off := 8) 8 (by simp) (putSeg_right (off := 0) 8 (by simp) (by
    have : putSeg ([s.salt] ++ numL s.v) 0 [x] = some ([x] ++ numL s.v) := putSeg_left (by rfl)
    exact this))))))
theorem putS_v (n : Nat) : putSeg (sideL s) 52 (numL n) = some (sideL { s with v := n }) :=
  putSeg_left (putSeg_right (off := 27) 25 (by simp) (putSeg_right (off := 25) 2 rfl (putSeg_right (off := 17) 8 (by simp) (putSeg_right (off := 9) 8 (by simp) (putSeg_right (off := 1) 8 (by simp) (by
    have : putSeg ([s.salt] ++ numL s.v) (1 + 0) (numL n) = some ([s.salt] ++ numL n) := putSeg_right (off := 0) 1 rfl putSeg_num
    exact this))))))
end
theorem fill_step {pl : Nat → Option (Nat × Nat)} {cells vs cells' : List AV} {i o s : Nat} {a : AV} {rest : List (Nat × AV)} (hp : pl i = some (o, s)) (hc : cellsA a = some vs) (hl : vs.length = s) (hput : putSeg cells o vs = some cells') : fillA pl cells ((i, a) :: rest) = fillA pl cells' rest := by
  subst hl
  unfold putSeg at hput
  split at hput
  · rename_i h
    cases hput
    simp only [fillA, hp, hc, true_and, if_pos h]
  · cases hput
theorem build_side0 : buildA ⟨92, 328, true, sideL side0, .struct sideF⟩ [] = some (side side0) := (rfl)
theorem build_hello {gB : Int} {P Q G a own : Nat} {name : ByteArray} {pass : AV} (hc : cellsA pass = some [pass]) : buildA ⟨92, 328, true, sideL side0, .struct sideF⟩ [(0, group gB P Q G), (1, .str name), (2, pass), (3, num a), (5, num own)] = some (side ⟨gB, P, Q, G, name, pass, a, 0, own, .nils, 0, z16, z16⟩) := by
  unfold buildA
  simp only
  rw [fill_step rfl (cellsA_group _ _ _ _) (by simp) (putS_G _ _ _ _), fill_step rfl (show cellsA (.str name) = some [.str name] from rfl) rfl (putS_name1 _), fill_step rfl hc rfl (putS_pass1 _),
    fill_step rfl (cellsA_num _) (by simp) (putS_A _), fill_step rfl (cellsA_num _) (by simp) (putS_own _)]
  rfl
theorem hello {gB : Int} {P Q G : Nat} (hG : GOk P Q) (hg : G < P) (name : ByteArray) (pass draw : List Int) (hp : pass.length ≤ 100000) (hd : draw.length ≤ 100000) :
    ASpec Try.prog 15 [group gB P Q G, .str name, roB pass, roB draw] (.tup [side (helloS gB P Q G name pass draw), num (G ^ exW Q [[97], draw] % P)]) := by
  refine ASpec.startX [3] 1000 Try.func15 (fn := Try.f15) rfl (by decide) mixed (by kernel_rfl) (by simp) ?_
  have hW := W_big
  have hQ := hG.lt
  have hQ2 := hG.two
  have hQl := hG.low
  simp (disch := omega) [ini, upd_eq, tyNum, tySide, tyGroup, tyBB, buildBB1 (cellsA_roB _)]
  have hx := exW_range (Q := Q) [[97], draw] (by omega)
  have hh : helloS gB P Q G name pass draw = ⟨gB, P, Q, G, name, roB pass, G ^ exW Q [[97], draw] % P, 0, exW Q [[97], draw], .nils, 0, z16, z16⟩ := rfl
  have hok := helloS_ok gB P Q G name pass draw
  refine callT_view (r := num (exW Q [[97], draw])) ?_ (by simp) ?_
  · have hv := fun bk nt hb => view_parts (bk := bk) (nt := nt) (id := 3) (f := true) [draw] hb
    have s1 := gexpo (B := gB) (G := G) hG ⟨#[97]⟩ [draw] _ (.inl rfl) (few2 (by decide) hd)
    simp only [List.map_cons, List.map_nil, List.length_cons, List.length_nil, Nat.zero_add, Nat.reduceAdd] at hv
    simp only [List.map_cons, List.map_nil, view_group, view_str]
    simp only [hv _ _ (show (upd _ 3 _) 3 = _ from upd_same _ _ _)]
    exact s1
  generalize exW Q [[97], draw] = E at *
  simp (disch := omega) [upd_eq, tyNum, tyGroup]
  have s2 := graise (B := gB) (P := P) (Q := Q) (G := G) (a := G) (e := E) (by omega) (by omega) (by omega) (by omega) (by omega)
  generalize G ^ E % P = A at *
  refine callT_of s2 (by simp [noRefs]) rfl ?_
  simp (disch := omega) [upd_eq, tyNum, tyGroup]
  refine goT_region2 mixed [(11, 8)] 100 (by kernel_rfl) ?_
  simp (disch := omega) [upd_eq, tyNum, tyGroup]
  refine callT_of (gclone pass (by omega)) rfl rfl ?_
  rw [hh] at hok
  simp (disch := omega) [upd_eq, tyNum, tySide, build_hello (cellsA_roB _), store_side hok, putS_all side0_ok hok]
  refine ⟨by simp [dynOk, ptrNe, upd_eq], ?_⟩
  simp (disch := omega) [upd_eq, tyNum, tySide, segS_all hok, resA_L Try.results15, view_side _ hok]
  rw [hh]
end Go.Proofs.Ytgefihgogfkjoaa
