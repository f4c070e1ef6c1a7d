/-
  'Am', part 2: what a new block, a store and a call's own new memory do to what is known of the call's blocks.
-/
import Derived.Test.YtfgojdnakidifaaAmCore
set_option linter.unusedSimpArgs false
set_option linter.unusedVariables false
namespace Go.Am

theorem addr_add (b o j : Nat) : (⟨b, o, none⟩ : Addr).add j = ⟨b, o + j, none⟩ := by unfold Addr.add; split <;> simp_all

theorem setRow_size (w : World) (g : Nat) (c : Array Value) : (w.setRow g c).heap.size = w.heap.size := by simp [World.setRow]
theorem setRow_ne (w : World) (g k : Nat) (c : Array Value) (h : k ≠ g) : (w.setRow g c).heap[k]? = w.heap[k]? := by
  simp only [World.setRow, Array.getElem?_modify]
  rw [if_neg (by omega)]
theorem setRow_shape (w : World) (g : Nat) (C c : Array Value) (e : TypeId) (f : Nat × Nat) (hg : w.heap[g]? = some (.cells C e f)) (hs : c.size = C.size) (k : Nat) :
    (w.setRow g c).shape? k = w.shape? k := by
  by_cases h : k = g
  · subst h
    simp [World.shape?, setRow_heap w k C c e f hg, hg, hs]
  · simp [World.shape?, setRow_ne w g k c h]

variable {X : Ctx} {h : HP} {M : Mem}

theorem HRel.w0_le (H : HRel X h M) : X.w0.heap.size ≤ M.w.heap.size := H.kept.size

theorem block_lt {w : World} {b : Nat} {o : Obj} (h : w.heap[b]? = some o) : b < w.heap.size := by
  rcases Nat.lt_or_ge b w.heap.size with h' | h'
  · exact h'
  · simp [Array.getElem?_eq_none h'] at h

theorem HRel.setRow (H : HRel X h M) {id : Nat} {k : Blk} (hb : h.bk id = some k) {C C' : Array Value} {e : TypeId}
    (hC : M.w.heap[M.φ id]? = some (.cells C e (0, 0))) (hs : C'.size = C.size) {k' : Blk} (hp : VPreR M k'.cs C'.toList) (hf : k'.fix = true → C'.size = k'.cs.length) :
    M.le { M with w := M.w.setRow (M.φ id) C' } ∧ HRel X { h with bk := upd h.bk id (some k') } { M with w := M.w.setRow (M.φ id) C' } := by
  have hD : M.D id := (H.dom id).2 (by simp [hb])
  have hle : M.le { M with w := M.w.setRow (M.φ id) C' } := by
    refine ⟨Nat.le_refl _, fun j _ hj => ⟨hj, rfl, setRow_shape _ _ _ _ _ _ hC hs _⟩, fun b D el fz hne hh => ⟨⟨fz, ?_⟩, hne⟩⟩
    show (M.w.setRow (M.φ id) C').heap[b]? = _
    rw [setRow_ne _ _ _ _ (Ne.symm (hne.1 id hD))]; exact hh
  refine ⟨hle, ⟨H.n, fun j => ?_, H.lt, fun j kj hj => ?_, H.inj, ?_, H.old, H.own⟩⟩
  · show M.D j ↔ _
    rw [H.dom j]
    by_cases hji : j = id
    · subst hji; simp [upd, hb]
    · simp [upd, hji]
  · by_cases hji : j = id
    · subst hji
      simp only [upd_same, Option.some.injEq] at hj
      subst hj
      exact ⟨C', e, setRow_heap _ _ _ _ _ _ hC, VPreR.mono hle _ _ hp, hf⟩
    · simp only [upd_other _ _ _ _ hji] at hj
      obtain ⟨Cj, ej, h1, h2, h3⟩ := H.bk j kj hj
      refine ⟨Cj, ej, ?_, VPreR.mono hle _ _ h2, h3⟩
      show (M.w.setRow (M.φ id) C').heap[M.φ j]? = _
      rw [setRow_ne _ _ _ _ (fun he => hji (H.inj j id ((H.dom j).2 (by simp [hj])) hD he))]
      exact h1
  · refine ⟨H.kept.os, H.kept.tape, H.kept.output, by rw [setRow_size]; exact H.kept.size, fun b hb hS => ?_⟩
    show (M.w.setRow (M.φ id) C').heap[b]? = _
    rw [setRow_ne]
    · exact H.kept.block b hb hS
    · rintro rfl
      rcases (H.own id hD).1 with h' | h'
      · omega
      · exact hS h'

/-- Memory that is new, or marks of drawn answers: what there was reads as it did. -/
structure Ext (w w' : World) : Prop where
  os : w'.os = w.os
  tape : w'.tape = w.tape
  output : w'.output = w.output
  size : w.heap.size ≤ w'.heap.size
  block : ∀ k, k < w.heap.size → w'.heap[k]? = w.heap[k]?

theorem Ext.refl (w : World) : Ext w w := ⟨rfl, rfl, rfl, Nat.le_refl _, fun _ _ => rfl⟩
theorem Ext.trans {a b c : World} (h : Ext a b) (k : Ext b c) : Ext a c :=
  ⟨k.os.trans h.os, k.tape.trans h.tape, k.output.trans h.output, Nat.le_trans h.size k.size, fun i hi => (k.block i (Nat.lt_of_lt_of_le hi h.size)).trans (h.block i hi)⟩
theorem Ext.drawn (w : World) (n : Nat) : Ext w { w with drawn := n } := ⟨rfl, rfl, rfl, Nat.le_refl _, fun _ _ => rfl⟩
theorem Ext.push (w : World) (o : Obj) : Ext w { w with heap := w.heap.push o } :=
  ⟨rfl, rfl, rfl, by simp, fun k hk => by show (w.heap.push o)[k]? = _; rw [Array.getElem?_push, if_neg (by omega)]⟩
theorem Ext.of_below {w w' : World} (h : Go.RowKit.Below w.heap.size w w') : Ext w w' := ⟨h.os, h.tape, h.output, h.size, h.block⟩
theorem Ext.get {w w' : World} (h : Ext w w') {b : Nat} {o : Obj} (hb : w.heap[b]? = some o) : w'.heap[b]? = some o := by
  rw [h.block b (block_lt hb)]; exact hb
theorem Ext.shape {w w' : World} (h : Ext w w') {b : Nat} (hb : b < w.heap.size) : w'.shape? b = w.shape? b := by
  simp [World.shape?, h.block b hb]

theorem HRel.ext (H : HRel X h M) {w' : World} (he : Ext M.w w') : M.le { M with w := w' } ∧ HRel X h { M with w := w' } := by
  have hlt : ∀ id, M.D id → M.φ id < M.w.heap.size := fun id hd => by
    obtain ⟨k, hk⟩ := Option.isSome_iff_exists.1 ((H.dom id).1 hd)
    obtain ⟨C, e, h1, _⟩ := H.bk id k hk
    exact block_lt h1
  have hle : M.le { M with w := w' } :=
    ⟨Nat.le_refl _, fun j _ hj => ⟨hj, rfl, he.shape (hlt j hj)⟩, fun b D el fz hne hh => ⟨⟨fz, he.get hh⟩, hne⟩⟩
  refine ⟨hle, ⟨H.n, H.dom, H.lt, fun j kj hj => ?_, H.inj, ?_, H.old, H.own⟩⟩
  · obtain ⟨C, e, h1, h2, h3⟩ := H.bk j kj hj
    exact ⟨C, e, he.get h1, VPreR.mono hle _ _ h2, h3⟩
  · exact ⟨he.os.trans H.kept.os, he.tape.trans H.kept.tape, he.output.trans H.kept.output, Nat.le_trans H.kept.size he.size,
      fun b hb hS => (he.block b (Nat.lt_of_lt_of_le hb H.kept.size)).trans (H.kept.block b hb hS)⟩

def HP.add (h : HP) (k : Blk) : HP := ⟨upd h.bk h.nt (some k), h.nt + 1⟩
def Mem.add (M : Mem) (o : Obj) : Mem := { φ := upd M.φ M.n M.w.heap.size, D := fun j => M.D j ∨ j = M.n, n := M.n + 1, O := M.O, w := { M.w with heap := M.w.heap.push o } }

theorem HRel.φ_lt (H : HRel X h M) {id : Nat} (hd : M.D id) : M.φ id < M.w.heap.size := by
  obtain ⟨k, hk⟩ := Option.isSome_iff_exists.1 ((H.dom id).1 hd)
  obtain ⟨C, e, h1, _⟩ := H.bk id k hk
  exact block_lt h1

theorem HRel.add_le (H : HRel X h M) (o : Obj) : M.le (M.add o) := by
  refine ⟨Nat.le_succ _, fun j hj hD => ?_, fun b D el fz hne hh => ⟨⟨fz, (Ext.push M.w o).get hh⟩, fun j hj => ?_, hne.2⟩⟩
  · have hjn : j ≠ M.n := by omega
    have hDj : M.D j := hD.resolve_right hjn
    exact ⟨hDj, upd_other _ _ _ _ hjn, (Ext.push M.w o).shape (H.φ_lt hDj)⟩
  · by_cases hjn : j = M.n
    · subst hjn
      show upd M.φ M.n M.w.heap.size M.n ≠ b
      rw [upd_same]
      have := block_lt hh
      omega
    · show upd M.φ M.n M.w.heap.size j ≠ b
      rw [upd_other _ _ _ _ hjn]
      exact hne.1 j (hj.resolve_right hjn)

theorem HRel.add (H : HRel X h M) {C : Array Value} {e : TypeId} {k : Blk} (hp : VPreR M k.cs C.toList) (hf : k.fix = true → C.size = k.cs.length) :
    HRel X (h.add k) (M.add (.cells C e (0, 0))) := by
  have hle := H.add_le (.cells C e (0, 0))
  have hn : M.n = h.nt := H.n
  refine ⟨by simp [Mem.add, HP.add, hn], fun j => ?_, fun j hj => ?_, fun j kj hj => ?_, fun i j hi hj hij => ?_, ?_, H.old, fun j hj => ?_⟩
  · show (M.D j ∨ j = M.n) ↔ (upd h.bk h.nt (some k) j).isSome = true
    by_cases hjn : j = h.nt
    · simp [upd, hjn, hn]
    · simp [upd, hjn, hn, H.dom j]
  · show j < M.n + 1
    rcases hj with hj | hj
    · have := H.lt j hj; omega
    · omega
  · by_cases hjn : j = h.nt
    · subst hjn
      simp only [HP.add, upd_same, Option.some.injEq] at hj
      subst hj
      refine ⟨C, e, ?_, VPreR.mono hle _ _ hp, hf⟩
      show (M.w.heap.push _)[upd M.φ M.n M.w.heap.size h.nt]? = _
      rw [hn, upd_same]; simp
    · simp only [HP.add, upd_other _ _ _ _ hjn] at hj
      obtain ⟨Cj, ej, h1, h2, h3⟩ := H.bk j kj hj
      refine ⟨Cj, ej, ?_, VPreR.mono hle _ _ h2, h3⟩
      show (M.w.heap.push _)[upd M.φ M.n M.w.heap.size j]? = _
      rw [hn, upd_other _ _ _ _ hjn]
      exact (Ext.push M.w _).get h1
  · change upd M.φ M.n M.w.heap.size i = upd M.φ M.n M.w.heap.size j at hij
    by_cases hin : i = M.n <;> by_cases hjn : j = M.n
    · omega
    · subst hin
      rw [upd_same, upd_other _ _ _ _ hjn] at hij
      have := H.φ_lt (hj.resolve_right hjn)
      omega
    · subst hjn
      rw [upd_same, upd_other _ _ _ _ hin] at hij
      have := H.φ_lt (hi.resolve_right hin)
      omega
    · rw [upd_other _ _ _ _ hin, upd_other _ _ _ _ hjn] at hij
      exact H.inj i j (hi.resolve_right hin) (hj.resolve_right hjn) hij
  · have hx := Ext.push M.w (.cells C e (0, 0))
    exact ⟨H.kept.os, H.kept.tape, H.kept.output, Nat.le_trans H.kept.size hx.size,
      fun b hb hS => (hx.block b (Nat.lt_of_lt_of_le hb H.kept.size)).trans (H.kept.block b hb hS)⟩
  · show (_ ≤ upd M.φ M.n M.w.heap.size j ∨ X.S (upd M.φ M.n M.w.heap.size j)) ∧ ¬ M.O (upd M.φ M.n M.w.heap.size j)
    by_cases hjn : j = M.n
    · subst hjn; rw [upd_same]; exact ⟨.inl H.kept.size, fun ho => by have := H.old _ ho; have := H.kept.size; omega⟩
    · rw [upd_other _ _ _ _ hjn]; exact H.own j (hj.resolve_right hjn)

/-- A block is given up: nothing is said of it any more. -/
def HP.drop (h : HP) (id : Nat) : HP := { h with bk := upd h.bk id none }
def Mem.drop (M : Mem) (id : Nat) : Mem := { M with D := fun j => M.D j ∧ j ≠ id }
theorem Mem.drop_le (M : Mem) (id : Nat) : M.le (M.drop id) :=
  ⟨Nat.le_refl _, fun _ _ hj => ⟨hj.1, rfl, rfl⟩, fun _ _ _ fz hne hh => ⟨⟨fz, hh⟩, fun j hj => hne.1 j hj.1, hne.2⟩⟩
theorem HRel.drop (H : HRel X h M) (id : Nat) : HRel X (h.drop id) (M.drop id) := by
  have hle := M.drop_le id
  refine ⟨H.n, fun j => ?_, fun j hj => H.lt j hj.1, fun j kj hj => ?_, fun i j hi hj => H.inj i j hi.1 hj.1, H.kept, H.old, fun j hj => H.own j hj.1⟩
  · show (M.D j ∧ j ≠ id) ↔ (upd h.bk id none j).isSome = true
    by_cases hji : j = id
    · simp [upd, hji]
    · simp [upd, hji, H.dom j]
  · by_cases hji : j = id
    · subst hji; simp [HP.drop, upd_same] at hj
    · simp only [HP.drop, upd_other _ _ _ _ hji] at hj
      obtain ⟨C, e, h1, h2, h3⟩ := H.bk j kj hj
      exact ⟨C, e, h1, VPreR.mono hle _ _ h2, h3⟩

end Go.Am
