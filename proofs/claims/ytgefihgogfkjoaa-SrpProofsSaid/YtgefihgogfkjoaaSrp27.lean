/-
  Srp27: a side is itself; a text with a byte turned.
-/
import Derived.Test.YtgefihgogfkjoaaSrp26
set_option linter.unusedSimpArgs false
set_option linter.unusedVariables false
namespace Go.Proofs.Ytgefihgogfkjoaa
open Go.Am

theorem eqlS {t : TypeId} {x : ByteArray} : binA Try.prog .eql t (.str x) (.str x) = some (.bool true) := by
  simp [binA, strOpA]
theorem conv_SN {a : AV} (h : (∃ l, a = roB l) ∨ a = .nils) : ∃ T, ∀ h : HP, convA Try.prog ⟨1, 24, false, [.nils], .slice 5 1 false 1⟩ ⟨1, 16, false, [.str ByteArray.empty], .str⟩ h a = some (.str T) := by
  rcases h with ⟨l, rfl⟩ | rfl
  · exact ⟨_, fun h => conv_S l⟩
  · refine ⟨strA [], fun h => ?_⟩
    simp only [convA, srcA, u8Tb]
    rfl
set_option maxRecDepth 16000 in
set_option maxHeartbeats 4000000 in
theorem rsame {s : SD} (hs : s.ok) (hp : (∃ l, s.pass = roB l) ∨ s.pass = .nils) (hq : (∃ l, s.salt = roB l) ∨ s.salt = .nils) (h1 : s.a < W) (h2 : s.b < W) (h3 : s.own < W) (h4 : s.v < W) : ASpec Try.prog 38 [side s, side s] (.bool true) := by
  refine ASpec.start 1000 Try.func38 (fn := Try.f38) rfl (by decide) mixed (by kernel_rfl) (by simp) ?_
  obtain ⟨T1, c1⟩ := conv_SN hp
  obtain ⟨T, c2⟩ := conv_SN hq
  simp (disch := omega) [ini, upd_eq, tyRSide, tyGroup, tyStr, tyBytes, tyNum, tySum, eql_group, eqlS, convOwn_BS, c1, c2, eql_num h1 h1, eql_num h2 h2, eql_num h3 h3, eql_num h4 h4, segS_key hs, segS_proof hs, eql_sum hs.key hs.key, eql_sum hs.proof hs.proof, resA_L Try.results38, view, view1, noRef]
theorem frz_st2 {h : HP} {j : Nat} {tm : Nat → AV} {l : List (Nat × AV)} (hl : ∀ p ∈ l, Frz h j (tm p.1) p.2) : ∀ t, Frz h j (tm t) (lk .dead l t) := by
  intro t
  rcases lk_mem (d := AV.dead) (l := l) (t := t) with ⟨h1, _⟩ | ⟨p, hp, rfl, h2⟩
  · exact .inr (.inl h1)
  · rw [h2]; exact hl p hp
/-- One block is given up; the slots and blocks that are named stay. -/
theorem goT_frz1 {P : Program} {fn : FnE} {todo : List Item} {r : RV} {tm : Nat → AV} {bk : Nat → Option Blk} {nt : Nat} {L : List (Nat × AV)} {B : List (Nat × Blk)} {t1 t2 t3} (j : Nat) (hj : bkl B j = none)
    (hl : ∀ p ∈ L, Frz ⟨bk, nt⟩ j (tm p.1) p.2) (hb : ∀ p ∈ B, ∃ b0, bk p.1 = some b0 ∧ p.2.fix = b0.fix ∧ FrzL ⟨bk, nt⟩ j b0.cs p.2.cs)
    (h : goT P fn todo r ⟨⟩ ⟨⟩ ⟨⟩ (st L B nt)) : goT P fn todo r t1 t2 t3 ⟨tm, ⟨bk, nt⟩⟩ := by
  refine goT_freeze (τ := st L B nt) j hj (Nat.le_refl _) (frz_st2 hl) ?_ h
  intro i b hi0
  have hi : bkl B i = some b := hi0
  clear hi0
  have : ∃ p ∈ B, p.1 = i ∧ p.2 = b := by
    clear hb hj h
    revert hi
    induction B with
    | nil => intro hi; cases hi
    | cons p B ih =>
      intro hi
      rw [bkl_cons] at hi
      split at hi
      · rename_i he
        cases hi
        exact ⟨p, by simp, he.symm, rfl⟩
      · obtain ⟨q, h1, h2⟩ := ih hi
        exact ⟨q, List.mem_cons_of_mem _ h1, h2⟩
  obtain ⟨p, hp, rfl, rfl⟩ := this
  exact hb p hp
theorem frz_roB {bk : Nat → Option Blk} {nt j : Nat} {l : List Int} {f : Bool} (h : bk j = some ⟨bl l, f⟩) : Frz ⟨bk, nt⟩ j (.sl j 0 1 l.length) (roB l) :=
  .inr (.inr (.inr ⟨0, 1, l.length, bl l, rfl, srcA_sl1 (f := f) h (by simp), noRefs_bl _, rfl⟩))
end Go.Proofs.Ytgefihgogfkjoaa
