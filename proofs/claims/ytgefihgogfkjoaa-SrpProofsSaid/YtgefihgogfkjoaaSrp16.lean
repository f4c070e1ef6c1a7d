/-
  Srp16: a side as the document's; sides held against one another.
-/
import Derived.Test.YtgefihgogfkjoaaSrp15
set_option linter.unusedSimpArgs false
set_option linter.unusedVariables false
namespace Go.Proofs.Ytgefihgogfkjoaa
open Go.Am

theorem fill_key {s : SD} {key : List Int} {rest : List (Nat × AV)} (hk : key.length = 16) (hs : s.key.length = 16) : fillA (placeA (.struct sideF)) (sideL s) ((8, smA key) :: rest) = fillA (placeA (.struct sideF)) (sideL { s with key := key }) rest :=
  fill_step rfl (cellsA_smA _) (by simp [hk]) (putS_key hs hk)
theorem fill_proof {s : SD} {proof : List Int} {rest : List (Nat × AV)} (hk : proof.length = 16) (hy : s.key.length = 16) (hs : s.proof.length = 16) : fillA (placeA (.struct sideF)) (sideL s) ((9, smA proof) :: rest) = fillA (placeA (.struct sideF)) (sideL { s with proof := proof }) rest :=
  fill_step rfl (cellsA_smA _) (by simp [hk]) (putS_proof hy hs hk)
theorem build_all {gB : Int} {P Q G a b own v : Nat} {name : ByteArray} {pass salt : AV} {key proof : List Int} (hp : cellsA pass = some [pass]) (hc : cellsA salt = some [salt]) (hk : key.length = 16) (hf : proof.length = 16) :
    buildA ⟨92, 328, true, sideL side0, .struct sideF⟩ [(0, group gB P Q G), (1, .str name), (2, pass), (3, num a), (4, num b), (5, num own), (6, salt), (7, num v), (8, smA key), (9, smA proof)] = some (side ⟨gB, P, Q, G, name, pass, a, b, own, salt, v, key, proof⟩) := by
  unfold buildA
  simp only
  rw [fill_step rfl (cellsA_group _ _ _ _) (by simp) (putS_G _ _ _ _), fill_step rfl (show cellsA (.str name) = some [.str name] from rfl) rfl (putS_name1 _), fill_step rfl hp rfl (putS_pass1 _),
    fill_step rfl (cellsA_num _) (by simp) (putS_A _), fill_step rfl (cellsA_num _) (by simp) (putS_B _), fill_step rfl (cellsA_num _) (by simp) (putS_own _), fill_step rfl hc rfl (putS_salt1 _), fill_step rfl (cellsA_num _) (by simp) (putS_v _),
    fill_key hk ?h1, fill_proof hf ?h2 ?h3]
  case h1 => rfl
  case h2 => exact hk
  case h3 => rfl
  rfl
theorem as_ {s : SD} (hs : s.ok) (hp : cellsA s.pass = some [s.pass]) (hc : cellsA s.salt = some [s.salt]) : ASpec Try.prog 37 [side s] (side s) := by
  refine ASpec.start 1000 Try.func37 (fn := Try.f37) rfl (by decide) mixed (by kernel_rfl) (by simp) ?_
  have hb := build_all (gB := s.gB) (P := s.gP) (Q := s.gQ) (G := s.gG) (a := s.a) (b := s.b) (own := s.own) (v := s.v) (name := s.name) hp hc hs.key hs.proof
  have he : (⟨s.gB, s.gP, s.gQ, s.gG, s.name, s.pass, s.a, s.b, s.own, s.salt, s.v, s.key, s.proof⟩ : SD) = s := rfl
  rw [he] at hb
  simp (disch := omega) [ini, upd_eq, tySide, tyRSide, tyGroup, tyStr, tyBytes, tyNum, tySum, segS_key hs, segS_proof hs, hb, segS_all hs, store_side hs, putS_all side0_ok hs, view_side _ hs, resA_L Try.results37]

/-! ### Same -/
theorem eqA_group (B : Int) (P Q G : Nat) : eqA Try.prog 29 (groupL B P Q G) (groupL B P Q G) = some true := by
  have eqkGroup : eqK Try.prog 29 = some (.i .i64 :: List.replicate 24 (.i .u32)) := by kernel_rfl
  have aggGroup : aggT Try.prog 29 = true := by kernel_rfl
  have hk : kindsOk (.i .i64 :: List.replicate 24 (.i .u32)) (groupL B P Q G) = true := rfl
  have self : ∀ (l : List AV), (l.all fun c => match c with | .int _ _ => true | _ => false) = true → eqCells l l = some true := by
    intro l
    induction l with
    | nil => intro _; rfl
    | cons a l ih =>
      intro h
      simp only [List.all_cons, Bool.and_eq_true] at h
      have e : eqCell a a = some true := by
        obtain ⟨h1, _⟩ := h
        cases a <;> first
          | (exact absurd (show false = true from h1) (by decide))
          | simp [eqCell]
      simp only [eqCells, e, ih h.2, Bool.and_self]
  unfold eqA
  rw [eqkGroup]
  simp only [hk, aggGroup, and_self, if_true]
  exact self _ rfl
theorem eql_group (B : Int) (P Q G : Nat) : binA Try.prog .eql 29 (group B P Q G) (group B P Q G) = some (.bool true) := by
  simp only [binA, group, eqA_group]
end Go.Proofs.Ytgefihgogfkjoaa
