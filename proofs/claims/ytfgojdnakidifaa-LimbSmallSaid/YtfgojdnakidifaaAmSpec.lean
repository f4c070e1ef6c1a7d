/-
  'Am', part 18: from a run to a contract; forgetting at a loop's head.
-/
import Derived.Test.YtfgojdnakidifaaAmRun
set_option linter.unusedSimpArgs false
set_option linter.unusedVariables false
namespace Go.Am
variable {P : Program} {X : Ctx}

def iniT (args : List AV) (t : Nat) : AV := (args[t]?).getD .dead
def noBk : Nat → Option Blk := fun _ => none
def ini (args : List AV) : AS := ⟨iniT args, ⟨noBk, 0⟩⟩
theorem iniT_zero {a : AV} {l : List AV} : iniT (a :: l) 0 = a := rfl
theorem iniT_succ {a : AV} {l : List AV} {n : Nat} : iniT (a :: l) (n + 1) = iniT l n := rfl

theorem ASpec.intro {f : FuncId} {fn : Func} {c : Code} {args : List AV} {r : AV} (n : Nat) (hf : P.funcs[f]? = some fn) (hb : fn.body = some c) (hnm : fn.name ≠ "runtime.NumGoroutine") (hm : P.follows .mixedOrders = true)
    (ex : List Nat) (hok : okCode fn.ntmps ex c = true) (hlen : args.length ≤ fn.ntmps) (h : vc P ⟨fn, ex⟩ n [.code c] (ini args) r) : ASpec P f args r := by
  refine ⟨⟨fn, hf, hnm, by rw [hb]; rfl⟩, fun O w vs hO hv cs => ?_⟩
  have hvl := hv.length
  let b : Frame := { (default : Frame) with fn := f, kind := .normal }
  have henter : Frame.enter P f ⟨vs⟩ .normal = b.at { tmps := ⟨vs⟩ ++ Array.replicate (fn.ntmps - (⟨vs⟩ : Array Value).size) undef, defers := [] } [.code c] := by
    simp [Frame.enter, Frame.at, hf, hb, b]
  have G := vc_sound hm n _ _ _ h
  have R : Rel fn.ntmps ⟨w, fun _ => False⟩ (ini args) (Mem.callee O w) { tmps := ⟨vs⟩ ++ Array.replicate (fn.ntmps - (⟨vs⟩ : Array Value).size) undef, defers := [] } := by
    refine ⟨⟨rfl, fun id => ⟨fun h => h.elim, fun h => by simp [ini, noBk] at h⟩, fun id h => h.elim, fun id k hk => by simp [ini, noBk] at hk, fun _ _ h => h.elim,
      ⟨rfl, rfl, rfl, Nat.le_refl _, fun _ _ _ => rfl⟩, hO, fun id h => h.elim⟩, ?_, rfl, fun t => ?_⟩
    · simp; omega
    · simp only [ini, iniT]
      cases ht : args[t]? with
      | none => exact trivial
      | some a =>
        obtain ⟨v, hv1, hr⟩ := hv.get t a ht
        have hlt : t < vs.length := (List.getElem?_eq_some_iff.1 hv1).1
        have : (⟨vs⟩ ++ Array.replicate (fn.ntmps - (⟨vs⟩ : Array Value).size) undef : Array Value).getD t undef = v := by
          rw [Array.getD_eq_getD_getElem?, Array.getElem?_append_left (by simpa using hlt)]
          simp [hv1]
        rw [this]
        exact VRel.flag _ _ hr
  have hok' : okTodo fn.ntmps ex [.code c] = true := by simpa [okTodo, okItem] using hok
  obtain ⟨v, w', fr, ⟨hk, hr⟩, hs, h3, h4⟩ := G hok' ⟨w, fun _ => False⟩ (Mem.callee O w) _ rfl R b cs rfl (by simpa [b] using hf)
  rw [← henter] at hs
  exact ⟨.returned v, w', fr, ⟨v, rfl, ⟨hk.os, hk.tape, hk.output, hk.size, fun k hkk => hk.block k hkk (fun h => h)⟩, hr⟩, hs, h3, h4⟩

/-! ### Forgetting -/
mutual
def ren (ρ : Nat → Nat) : AV → AV
  | .ptr id off => .ptr (ρ id) off
  | .sl id off es n => .sl (ρ id) off es n
  | .agg cs => .agg (rens ρ cs)
  | .tup cs => .tup (rens ρ cs)
  | .fn f a b => .fn f (rens ρ a) (rens ρ b)
  | .int k n => .int k n | .bool b => .bool b | .str s => .str s | .exact v => .exact v | .ro n cs => .ro n cs | .rp cs => .rp cs | .nils => .nils | .dead => .dead
def rens (ρ : Nat → Nat) : List AV → List AV
  | [] => []
  | c :: cs => ren ρ c :: rens ρ cs
end
mutual
def refsLt (n : Nat) : AV → Bool
  | .ptr id _ => decide (id < n)
  | .sl id _ _ _ => decide (id < n)
  | .agg cs => refsLts n cs
  | .tup cs => refsLts n cs
  | .fn _ a b => refsLts n a && refsLts n b
  | .int _ _ | .bool _ | .str _ | .exact _ | .ro _ _ | .rp _ | .nils | .dead => true
def refsLts (n : Nat) : List AV → Bool
  | [] => true
  | c :: cs => refsLt n c && refsLts n cs
end

structure Ren (M M' : Mem) (ρ : Nat → Nat) : Prop where
  w : M'.w = M.w
  D : ∀ id, M'.D id → M.D (ρ id) ∧ M'.φ id = M.φ (ρ id)
  free : ∀ b, M.free b → M'.free b

mutual
theorem VRel.ren {M M' : Mem} {ρ : Nat → Nat} (hs : Ren M M' ρ) {r : Bool} : ∀ (a : AV) (v : Value), refsLt M'.n a = true → VRel M r (ren ρ a) v → VRel M' r a v
  | .int _ _, _, _, H | .bool _, _, _, H | .str _, _, _, H | .exact _, _, _, H | .nils, _, _, H | .dead, _, _, H => H
  | .agg cs, _, hn, ⟨a, e, H⟩ => ⟨a, e, VRels.ren hs cs a (by simpa [refsLt] using hn) H⟩
  | .tup cs, _, hn, ⟨a, e, H⟩ => ⟨a, e, VRels.ren hs cs a (by simpa [refsLt] using hn) H⟩
  | .fn _ fs cs, _, hn, ⟨a, b, e, H, K⟩ => by
      simp only [refsLt, Bool.and_eq_true] at hn
      exact ⟨a, b, e, VRels.ren hs fs a hn.1 H, VRels.ren hs cs b hn.2 K⟩
  | .ptr id off, v, hn, ⟨h1, h2, h3, h4⟩ => ⟨h1, h2, by simpa [refsLt] using hn, fun hd => by
      obtain ⟨q1, q2⟩ := hs.D id hd
      rw [q2]; exact h4 q1⟩
  | .sl id off es n, v, hn, ⟨h1, h2, h3, h4⟩ => ⟨h1, h2, by simpa [refsLt] using hn, fun hd => by
      obtain ⟨q1, q2⟩ := hs.D id hd
      rw [q2, hs.w]; exact h4 q1⟩
  | .ro n cs, v, _, ⟨base, cap, e, hn, H⟩ => ⟨base, cap, e, hn, H.imp id fun ⟨b, off, C, el, fz, hb, hh, hne, hp⟩ =>
      ⟨b, off, C, el, fz, hb, by rw [hs.w]; exact hh, hs.free b hne, VPre.sees ⟨hs.w, hs.free⟩ cs _ hp⟩⟩
  | .rp cs, v, _, ⟨b, off, C, el, fz, hb, hh, hne, hp⟩ => ⟨b, off, C, el, fz, hb, by rw [hs.w]; exact hh, hs.free b hne, VPre.sees ⟨hs.w, hs.free⟩ cs _ hp⟩
theorem VRels.ren {M M' : Mem} {ρ : Nat → Nat} (hs : Ren M M' ρ) {r : Bool} : ∀ (cs : List AV) (l : List Value), refsLts M'.n cs = true → VRels M r (rens ρ cs) l → VRels M' r cs l
  | [], _, _, H => H
  | c :: cs, _, hn, ⟨v, vs, e, H, K⟩ => by
      simp only [refsLts, Bool.and_eq_true] at hn
      exact ⟨v, vs, e, VRel.ren hs c v hn.1 H, VRels.ren hs cs vs hn.2 K⟩
end
theorem VPreR.ren {M M' : Mem} {ρ : Nat → Nat} (hs : Ren M M' ρ) : ∀ (cs : List AV) (l : List Value), refsLts M'.n cs = true → VPreR M (rens ρ cs) l → VPreR M' cs l
  | [], _, _, _ => trivial
  | c :: cs, _, hn, ⟨v, vs, e, H, K⟩ => by
      simp only [refsLts, Bool.and_eq_true] at hn
      exact ⟨v, vs, e, VRel.ren hs c v hn.1 H, VPreR.ren hs cs vs hn.2 K⟩

theorem rens_length (ρ : Nat → Nat) : ∀ cs : List AV, (rens ρ cs).length = cs.length
  | [] => rfl
  | c :: cs => by simp [rens, rens_length ρ cs]

/-- A state by lists: slots, blocks. All else is forgotten. -/
def lk {α : Type} (d : α) : List (Nat × α) → Nat → α
  | [], _ => d
  | (k, v) :: l, t => if t = k then v else lk d l t
def st (l : List (Nat × AV)) (b : List (Nat × Blk)) (n : Nat) : AS := ⟨lk .dead l, ⟨lk none (b.map fun p => (p.1, some p.2)), n⟩⟩

theorem lk_mem {α : Type} {d : α} : ∀ {l : List (Nat × α)} {t : Nat}, (lk d l t = d ∧ ∀ p ∈ l, p.1 ≠ t) ∨ ∃ p ∈ l, p.1 = t ∧ lk d l t = p.2
  | [], t => .inl ⟨rfl, fun _ h => by cases h⟩
  | (k, v) :: l, t => by
    unfold lk
    by_cases h : t = k
    · exact .inr ⟨(k, v), .head _, h.symm, by simp [h]⟩
    · rw [if_neg h]
      rcases lk_mem (d := d) (l := l) (t := t) with ⟨h1, h2⟩ | ⟨p, hp, h1, h2⟩
      · exact .inl ⟨h1, fun p hp => by
          cases hp with
          | head => exact fun e => h e.symm
          | tail _ hp => exact h2 p hp⟩
      · exact .inr ⟨p, .tail _ hp, h1, h2⟩

/-- 'st l b n' says no more than σ, its blocks numbered by ρ. -/
structure Weak (ρ : Nat → Nat) (l : List (Nat × AV)) (b : List (Nat × Blk)) (n : Nat) (σ : AS) : Prop where
  tm : ∀ p ∈ l, ren ρ p.2 = σ.tm p.1 ∧ refsLt n p.2 = true
  bk : ∀ p ∈ b, p.1 < n ∧ refsLts n p.2.cs = true ∧ σ.h.bk (ρ p.1) = some ⟨rens ρ p.2.cs, p.2.fix⟩
  inj : ∀ p ∈ b, ∀ q ∈ b, ρ p.1 = ρ q.1 → p.1 = q.1

theorem GoA.weak {fn : FnE} {todo : List Item} {σ : AS} {r : AV} (ρ : Nat → Nat) {l : List (Nat × AV)} {b : List (Nat × Blk)} {n : Nat} (hw : Weak ρ l b n σ) (h : GoA P fn todo (st l b n) r) : GoA P fn todo σ r := by
  intro hok X M a hS R fb cs hb hf
  have dom : ∀ id, ((st l b n).h.bk id).isSome = true → ∃ p ∈ b, p.1 = id ∧ (st l b n).h.bk id = some p.2 ∧ M.D (ρ id) := by
    intro id hid
    rcases lk_mem (d := none) (l := b.map fun p => (p.1, some p.2)) (t := id) with ⟨h1, _⟩ | ⟨p, hp, h1, h2⟩
    · have : (st l b n).h.bk id = none := h1
      rw [this] at hid; cases hid
    · obtain ⟨q, hq, rfl⟩ := List.mem_map.1 hp
      refine ⟨q, hq, h1, h2, (R.heap.dom _).2 ?_⟩
      have := (hw.bk q hq).2.2
      simp only at h1
      rw [h1] at this
      rw [this]; rfl
  let M' : Mem := { φ := fun id => M.φ (ρ id), D := fun id => ((st l b n).h.bk id).isSome = true, n := n, O := M.O, w := M.w }
  have hren : Ren M M' ρ := ⟨rfl, fun id hid => ⟨(dom id hid).choose_spec.2.2.2, rfl⟩, fun bb hfree => ⟨fun id hid => hfree.1 _ (dom id hid).choose_spec.2.2.2, hfree.2⟩⟩
  have R' : Rel fn.fn.ntmps X (st l b n) M' a := by
    refine ⟨⟨rfl, fun id => Iff.rfl, fun id hid => ?_, fun id k hk => ?_, fun i j hi hj hij => ?_, R.heap.kept, R.heap.old, fun id hid => R.heap.own _ (dom id hid).choose_spec.2.2.2⟩, R.size, R.defers, fun t => ?_⟩
    · obtain ⟨p, hp, rfl, _⟩ := dom id hid
      exact (hw.bk p hp).1
    · obtain ⟨p, hp, rfl, hpk, hD⟩ := dom id (by rw [hk]; rfl)
      rw [hk] at hpk
      cases hpk
      obtain ⟨_, h2, h3⟩ := hw.bk p hp
      obtain ⟨C, e, q1, q2, q3⟩ := R.heap.bk _ _ h3
      exact ⟨C, e, q1, VPreR.ren hren _ _ h2 q2, fun hfx => by rw [q3 hfx, rens_length]⟩
    · obtain ⟨p, hp, rfl, _, hD1⟩ := dom i hi
      obtain ⟨q, hq, rfl, _, hD2⟩ := dom j hj
      exact hw.inj p hp q hq (R.heap.inj _ _ hD1 hD2 hij)
    · rcases lk_mem (d := AV.dead) (l := l) (t := t) with ⟨h1, _⟩ | ⟨p, hp, rfl, h2⟩
      · have : (st l b n).tm t = .dead := h1
        rw [this]; exact trivial
      · have : (st l b n).tm p.1 = p.2 := h2
        rw [this]
        obtain ⟨q1, q2⟩ := hw.tm p hp
        exact VRel.ren hren _ _ q2 (by rw [q1]; exact R.tm p.1)
  exact h hok X M' a hS R' fb cs hb hf

mutual
theorem ren_id : ∀ a : AV, ren (fun i => i) a = a
  | .int _ _ | .bool _ | .str _ | .exact _ | .nils | .dead | .ro _ _ | .rp _ | .ptr _ _ | .sl _ _ _ _ => rfl
  | .agg cs => by rw [ren, rens_id cs]
  | .tup cs => by rw [ren, rens_id cs]
  | .fn _ a b => by rw [ren, rens_id a, rens_id b]
theorem rens_id : ∀ cs : List AV, rens (fun i => i) cs = cs
  | [] => rfl
  | c :: cs => by rw [rens, ren_id c, rens_id cs]
end

/-- The same, with the blocks' numbers as they are. -/
theorem GoA.weak0 {fn : FnE} {todo : List Item} {σ : AS} {r : AV} {l : List (Nat × AV)} {b : List (Nat × Blk)} {n : Nat} (h1 : ∀ p ∈ l, p.2 = σ.tm p.1 ∧ refsLt n p.2 = true)
    (h2 : ∀ p ∈ b, p.1 < n ∧ refsLts n p.2.cs = true ∧ σ.h.bk p.1 = some p.2) (h : GoA P fn todo (st l b n) r) : GoA P fn todo σ r :=
  GoA.weak (fun i => i) ⟨fun p hp => by rw [ren_id]; exact h1 p hp, fun p hp => by
    rw [rens_id]
    exact h2 p hp, fun _ _ _ _ h => h⟩ h

/-- From a round's conditions to a loop. -/
theorem GoA.round (hm : P.follows .mixedOrders = true) {fn : FnE} {c : Code} {k : List Item} {σ : AS} {r : AV} (n : Nat) (h : vc P fn n (.code c :: .inLoop c :: k) σ r) : GoA P fn (.inLoop c :: k) σ r :=
  GoA.inLoop (vc_sound hm n _ _ _ h)

/-! ### Calls -/
theorem CallV.of {g : FuncId} {args : List AV} {h : HP} {r : AV} {K : AV → Prop} (hS : ASpec P g args r) (hn : noRefs args = true) (hr : noRef r = true) (hK : K r) : CallV P (.fn (.func g) [] []) args h K :=
  ⟨g, [], [], r, rfl, hS.1, .inl ⟨by simpa using hn, by simpa using hS, hr⟩, hK⟩
theorem CallV.view {g : FuncId} {args : List AV} {h : HP} {r : AV} {K : AV → Prop} (hS : ASpec P g (args.map (Am.view h)) r) (hr : flat r = true) (hK : K r) : CallV P (.fn (.func g) [] []) args h K :=
  ⟨g, [], [], r, rfl, hS.1, .inr ⟨by simpa using hS, hr⟩, hK⟩

theorem boolV_split {b : Bool} {x y : Prop} (h1 : b = true → x) (h2 : b = false → y) : boolV (.bool b) x y := ⟨h1, h2⟩
theorem boolV_true {x y : Prop} (h : x) : boolV (.bool true) x y := ⟨fun _ => h, fun h => by cases h⟩
theorem boolV_false {x y : Prop} (h : y) : boolV (.bool false) x y := ⟨(fun h => by cases h), fun _ => h⟩

end Go.Am
