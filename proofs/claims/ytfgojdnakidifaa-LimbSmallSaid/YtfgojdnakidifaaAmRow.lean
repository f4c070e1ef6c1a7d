/-
  'Am', part 25: from a contract to a row's walk: integers, bools, strings, slices of integers that came in.
-/
import Derived.Test.YtfgojdnakidifaaAmLaws3
import Derived.Below
set_option linter.unusedSimpArgs false
set_option linter.unusedVariables false
namespace Go.Am
variable {P : Program}

/-- the world in which a row's call begins -/
def M0 (w : World) : Mem := Mem.callee (fun _ => False) w
theorem M0_free (w : World) (b : Nat) : (M0 w).free b := ⟨fun _ h => h.elim, fun h => h⟩

theorem ASpec.row {f : FuncId} {args : List AV} (h : ASpec P f args (.bool true)) (w : World) (vs : List Value) (hv : VRels (M0 w) false args vs) :
    Calls P f ⟨vs⟩ w fun e w' => e = .returned (.bool true) ∧ Go.RowKit.Below w.heap.size w w' := by
  refine (h.2 (fun _ => False) w vs (fun _ h => h.elim) hv).mono ?_
  rintro e w' ⟨v, rfl, hx, hr⟩
  simp only [VRel] at hr
  subst hr
  exact ⟨rfl, ⟨hx.os, hx.tape, hx.output, hx.size, hx.block⟩⟩

/-- What a slice of integers reads as. -/
theorem row_ro {k : IntKind} {w : World} {a : Option Addr} {len cap : Nat} {zs : List Int}
    (h : (a = none ∧ len = 0 ∧ cap = 0 ∧ zs = []) ∨
      ∃ x, a = some x ∧ len ≤ cap ∧ cap ≤ maxLen ∧ zs.length = cap ∧ (∀ i, i < zs.length → w.cell? (x.add i) = some (.int k (zs.getD i 0))) ∧ ∀ n ∈ zs, (Lit.int k n).wf = true) :
    VRel (M0 w) false (.ro len (famL (fun i => .int k (zs.getD i 0)) len)) (.slice a len cap) := by
  rcases h with ⟨rfl, rfl, rfl, rfl⟩ | ⟨x, rfl, hl, hm, hz, hc, hw⟩
  · exact ⟨none, 0, rfl, Nat.le_refl _, .inl rfl⟩
  · by_cases h0 : len = 0
    · subst h0
      exact ⟨_, cap, rfl, hl, .inl rfl⟩
    · obtain ⟨b, off, spot⟩ := x
      have h1 := hc 0 (by omega)
      have hspot : spot = none := by simpa [Addr.add] using World.cell?_spot h1
      subst hspot
      have key : ∀ i, i < zs.length → w.cell? ⟨b, off + i, none⟩ = some (.int k (zs.getD i 0)) := fun i hi => by
        have := hc i hi
        rwa [addr_add] at this
      obtain ⟨C, e, fz, hb⟩ : ∃ C e fz, w.heap[b]? = some (.cells C e fz) := by
        have h2 := key 0 (by omega)
        unfold World.cell? at h2
        split at h2
        · rename_i C e fz hb; exact ⟨C, e, fz, hb⟩
        · cases h2
      refine ⟨_, cap, rfl, hl, .inr ⟨b, off, C, e, fz, rfl, hb, M0_free w b, VPre.of_get fun i c hi => ?_⟩⟩
      have hil : i < len := by
        rcases Nat.lt_or_ge i len with h | h
        · exact h
        · rw [List.getElem?_eq_none (by simp; omega)] at hi; cases hi
      rw [famL_get _ _ _ hil] at hi
      cases hi
      have h3 := key i (by omega)
      unfold World.cell? at h3
      simp only [hb] at h3
      exact ⟨_, by rw [List.getElem?_drop]; simpa using h3, rfl⟩
theorem wf_i64 {x : Int} (h : (Lit.int .i64 x).wf = true) : -9223372036854775808 ≤ x ∧ x < 9223372036854775808 := by
  simp [Lit.wf, IntKind.min, IntKind.max, IntKind.bits, IntKind.signed] at h
  omega
theorem wf_u8 {x : Int} (h : (Lit.int .u8 x).wf = true) : 0 ≤ x ∧ x < 256 := by
  simp [Lit.wf, IntKind.min, IntKind.max, IntKind.bits, IntKind.signed] at h
  omega
end Go.Am
