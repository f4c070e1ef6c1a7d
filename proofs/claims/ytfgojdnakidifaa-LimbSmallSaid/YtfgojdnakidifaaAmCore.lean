/-
  A symbolic executor over slots and blocks of a call's own ('Am'), part 1: abstract values, states, and what they say of a frame and a world.
-/
import Derived.Orders
import Derived.Laws.Cells
import Derived.Laws.CopyRow
import Derived.Laws.Pointers
import Derived.Below
set_option linter.unusedSimpArgs false
set_option linter.unusedVariables false
namespace Go.Am

/-- Abstract values: a pointer or slice names one of the call's own blocks by a number; 'ro', 'rp': memory known by its content alone, which nobody writes any more. -/
inductive AV where
  | int (k : IntKind) (n : Int)
  | bool (b : Bool)
  | str (s : ByteArray)
  | exact (v : Value)
  | agg (cs : List AV)
  | tup (vs : List AV)
  | fn (f : Fn) (first caps : List AV)
  | ptr (id off : Nat)
  | sl (id off esz n : Nat)
  | ro (n : Nat) (cs : List AV)
  | rp (cs : List AV)
  | nils
  | dead

structure Blk where
  cs : List AV
  fix : Bool

/-- The call's own blocks, and the next block's number. -/
structure HP where
  bk : Nat → Option Blk
  nt : Nat

structure AS where
  tm : Nat → AV
  h : HP

def upd {α : Type} (f : Nat → α) (i : Nat) (v : α) : Nat → α := fun j => if j = i then v else f j
theorem upd_same {α : Type} (f : Nat → α) (i : Nat) (v : α) : upd f i v i = v := by simp [upd]
theorem upd_other {α : Type} (f : Nat → α) (i j : Nat) (v : α) (h : j ≠ i) : upd f i v j = f j := by simp [upd, h]
theorem upd_comm {α : Type} (f : Nat → α) (i j : Nat) (v u : α) (h : i ≠ j) : upd (upd f i v) j u = upd (upd f j u) i v := by
  funext k; unfold upd; by_cases h1 : k = j <;> by_cases h2 : k = i <;> simp_all

/-- 'φ': where the call's own blocks lie; 'D': which there are; 'O': blocks of the caller's, which may be written behind the call. -/
structure Mem where
  φ : Nat → Nat
  D : Nat → Prop
  n : Nat
  O : Nat → Prop
  w : World

/-- A block that is neither the call's own nor the caller's. -/
def Mem.free (M : Mem) (b : Nat) : Prop := (∀ id, M.D id → M.φ id ≠ b) ∧ ¬ M.O b

mutual
def VRel (M : Mem) (r : Bool) : AV → Value → Prop
  | .int k n, v => v = .int k n
  | .bool b, v => v = .bool b
  | .str s, v => v = .string s
  | .exact x, v => v = x
  | .agg cs, v => ∃ a, v = .agg ⟨a⟩ ∧ VRels M r cs a
  | .tup cs, v => ∃ a, v = .tuple ⟨a⟩ ∧ VRels M r cs a
  | .fn f fs cs, v => ∃ a b, v = .func f ⟨a⟩ ⟨b⟩ ∧ VRels M r fs a ∧ VRels M r cs b
  | .ptr id off, v => r = true ∧ v.oneCell' = true ∧ id < M.n ∧ (M.D id → v = .pointer (some ⟨M.φ id, off, none⟩))
  | .sl id off esz n, v => r = true ∧ v.oneCell' = true ∧ id < M.n ∧ (M.D id → ∃ cap e sz, v = .slice (some ⟨M.φ id, off, none⟩) n cap ∧ n ≤ cap ∧ M.w.shape? (M.φ id) = some (e, sz) ∧ off + cap * esz ≤ sz)
  | .ro n cs, v => ∃ base cap, v = .slice base n cap ∧ n ≤ cap ∧
      (cs = [] ∨ ∃ b off C e fz, base = some ⟨b, off, none⟩ ∧ M.w.heap[b]? = some (.cells C e fz) ∧ M.free b ∧ VPre M cs (C.toList.drop off))
  | .rp cs, v => ∃ b off C e fz, v = .pointer (some ⟨b, off, none⟩) ∧ M.w.heap[b]? = some (.cells C e fz) ∧ M.free b ∧ VPre M cs (C.toList.drop off)
  | .nils, v => v = .slice none 0 0
  | .dead, _ => True
def VRels (M : Mem) (r : Bool) : List AV → List Value → Prop
  | [], l => l = []
  | c :: cs, l => ∃ v vs, l = v :: vs ∧ VRel M r c v ∧ VRels M r cs vs
def VPre (M : Mem) : List AV → List Value → Prop
  | [], _ => True
  | c :: cs, l => ∃ v vs, l = v :: vs ∧ VRel M false c v ∧ VPre M cs vs
end

/-- What a prefix of cells reads as; the call's own blocks may be named. -/
def VPreR (M : Mem) : List AV → List Value → Prop
  | [], _ => True
  | c :: cs, l => ∃ v vs, l = v :: vs ∧ VRel M true c v ∧ VPreR M cs vs

/-- M' keeps all that M says. -/
structure Mem.le (M M' : Mem) : Prop where
  n : M.n ≤ M'.n
  D : ∀ id, id < M.n → M'.D id → M.D id ∧ M'.φ id = M.φ id ∧ M'.w.shape? (M.φ id) = M.w.shape? (M.φ id)
  ro : ∀ b C e fz, M.free b → M.w.heap[b]? = some (.cells C e fz) → (∃ fz', M'.w.heap[b]? = some (.cells C e fz')) ∧ M'.free b

mutual
theorem VRel.mono {M M' : Mem} (h : M.le M') {r : Bool} : ∀ (a : AV) (v : Value), VRel M r a v → VRel M' r a v
  | .int _ _, _, H | .bool _, _, H | .str _, _, H | .exact _, _, H | .nils, _, H | .dead, _, H => H
  | .agg cs, _, ⟨a, e, H⟩ => ⟨a, e, VRels.mono h cs a H⟩
  | .tup cs, _, ⟨a, e, H⟩ => ⟨a, e, VRels.mono h cs a H⟩
  | .fn _ fs cs, _, ⟨a, b, e, H, K⟩ => ⟨a, b, e, VRels.mono h fs a H, VRels.mono h cs b K⟩
  | .ptr id off, v, ⟨hr, ho, hn, e⟩ => ⟨hr, ho, Nat.lt_of_lt_of_le hn h.n, fun hd => by
      obtain ⟨h1, h2, _⟩ := h.D id hn hd
      rw [h2]; exact e h1⟩
  | .sl id off esz n, v, ⟨hr, ho, hn, H⟩ => ⟨hr, ho, Nat.lt_of_lt_of_le hn h.n, fun hd => by
      obtain ⟨h1, h2, h3⟩ := h.D id hn hd
      rw [h2, h3]; exact H h1⟩
  | .ro n cs, v, ⟨base, cap, e, hn, H⟩ => ⟨base, cap, e, hn, H.imp id fun ⟨b, off, C, el, fz, hb, hh, hne, hp⟩ =>
      let ⟨⟨fz', h1⟩, h2⟩ := h.ro b C el fz hne hh
      ⟨b, off, C, el, fz', hb, h1, h2, VPre.mono h cs _ hp⟩⟩
  | .rp cs, v, ⟨b, off, C, el, fz, hb, hh, hne, hp⟩ =>
      let ⟨⟨fz', h1⟩, h2⟩ := h.ro b C el fz hne hh
      ⟨b, off, C, el, fz', hb, h1, h2, VPre.mono h cs _ hp⟩
theorem VRels.mono {M M' : Mem} (h : M.le M') {r : Bool} : ∀ (cs : List AV) (l : List Value), VRels M r cs l → VRels M' r cs l
  | [], _, H => H
  | c :: cs, _, ⟨v, vs, e, H, K⟩ => ⟨v, vs, e, VRel.mono h c v H, VRels.mono h cs vs K⟩
theorem VPre.mono {M M' : Mem} (h : M.le M') : ∀ (cs : List AV) (l : List Value), VPre M cs l → VPre M' cs l
  | [], _, H => H
  | c :: cs, _, ⟨v, vs, e, H, K⟩ => ⟨v, vs, e, VRel.mono h c v H, VPre.mono h cs vs K⟩
end
theorem VPreR.mono {M M' : Mem} (h : M.le M') : ∀ (cs : List AV) (l : List Value), VPreR M cs l → VPreR M' cs l
  | [], _, H => H
  | c :: cs, _, ⟨v, vs, e, H, K⟩ => ⟨v, vs, e, VRel.mono h c v H, VPreR.mono h cs vs K⟩

theorem Mem.le.refl (M : Mem) : M.le M := ⟨Nat.le_refl _, fun _ _ h => ⟨h, rfl, rfl⟩, fun _ _ _ fz h hh => ⟨⟨fz, hh⟩, h⟩⟩

mutual
theorem VRel.flag {M : Mem} : ∀ (a : AV) (v : Value), VRel M false a v → VRel M true a v
  | .int _ _, _, H | .bool _, _, H | .str _, _, H | .exact _, _, H | .nils, _, H | .dead, _, H => H
  | .agg cs, _, ⟨a, e, H⟩ => ⟨a, e, VRels.flag cs a H⟩
  | .tup cs, _, ⟨a, e, H⟩ => ⟨a, e, VRels.flag cs a H⟩
  | .fn _ fs cs, _, ⟨a, b, e, H, K⟩ => ⟨a, b, e, VRels.flag fs a H, VRels.flag cs b K⟩
  | .ptr id off, v, ⟨hr, _⟩ => by cases hr
  | .sl id off esz n, v, ⟨hr, _⟩ => by cases hr
  | .ro n cs, v, H => H
  | .rp cs, v, H => H
theorem VRels.flag {M : Mem} : ∀ (cs : List AV) (l : List Value), VRels M false cs l → VRels M true cs l
  | [], _, H => H
  | c :: cs, _, ⟨v, vs, e, H, K⟩ => ⟨v, vs, e, VRel.flag c v H, VRels.flag cs vs K⟩
end
theorem VPre.flag {M : Mem} : ∀ (cs : List AV) (l : List Value), VPre M cs l → VPreR M cs l
  | [], _, H => H
  | c :: cs, _, ⟨v, vs, e, H, K⟩ => ⟨v, vs, e, VRel.flag c v H, VPre.flag cs vs K⟩

/-! ### Lists of cells -/
theorem VRels.length {M : Mem} {r : Bool} : ∀ {cs : List AV} {l : List Value}, VRels M r cs l → l.length = cs.length
  | [], _, h => by cases h; rfl
  | _ :: cs, _, ⟨_, _, e, _, K⟩ => by subst e; simp [VRels.length (cs := cs) K]
theorem VPreR.length {M : Mem} : ∀ {cs : List AV} {l : List Value}, VPreR M cs l → cs.length ≤ l.length
  | [], _, _ => Nat.zero_le _
  | _ :: cs, _, ⟨_, _, e, _, K⟩ => by subst e; simpa using VPreR.length (cs := cs) K
theorem VPre.length {M : Mem} {cs : List AV} {l : List Value} (h : VPre M cs l) : cs.length ≤ l.length := VPreR.length (VPre.flag _ _ h)
theorem VRels.get {M : Mem} {r : Bool} : ∀ {cs : List AV} {l : List Value}, VRels M r cs l → ∀ (i : Nat) (c : AV), cs[i]? = some c → ∃ v, l[i]? = some v ∧ VRel M r c v
  | [], _, _, i, c, hc => by simp at hc
  | c0 :: cs, _, ⟨v, vs, e, H, K⟩, i, c, hc => by
    subst e
    cases i with
    | zero => simp at hc; subst hc; exact ⟨v, rfl, H⟩
    | succ i => simpa using VRels.get (cs := cs) K i c (by simpa using hc)
theorem VPreR.get {M : Mem} : ∀ {cs : List AV} {l : List Value}, VPreR M cs l → ∀ (i : Nat) (c : AV), cs[i]? = some c → ∃ v, l[i]? = some v ∧ VRel M true c v
  | [], _, _, i, c, hc => by simp at hc
  | c0 :: cs, _, ⟨v, vs, e, H, K⟩, i, c, hc => by
    subst e
    cases i with
    | zero => simp at hc; subst hc; exact ⟨v, rfl, H⟩
    | succ i => simpa using VPreR.get (cs := cs) K i c (by simpa using hc)
theorem VPre.get {M : Mem} : ∀ {cs : List AV} {l : List Value}, VPre M cs l → ∀ (i : Nat) (c : AV), cs[i]? = some c → ∃ v, l[i]? = some v ∧ VRel M false c v
  | [], _, _, i, c, hc => by simp at hc
  | c0 :: cs, _, ⟨v, vs, e, H, K⟩, i, c, hc => by
    subst e
    cases i with
    | zero => simp at hc; subst hc; exact ⟨v, rfl, H⟩
    | succ i => simpa using VPre.get (cs := cs) K i c (by simpa using hc)
theorem VRels.of_get {M : Mem} {r : Bool} : ∀ {cs : List AV} {l : List Value}, l.length = cs.length → (∀ (i : Nat) (c : AV), cs[i]? = some c → ∃ v, l[i]? = some v ∧ VRel M r c v) → VRels M r cs l
  | [], l, hl, _ => by simpa [VRels] using hl
  | c0 :: cs, [], hl, _ => by simp at hl
  | c0 :: cs, v :: vs, hl, h => by
    obtain ⟨u, hu, hr⟩ := h 0 c0 rfl
    simp at hu; subst hu
    exact ⟨v, vs, rfl, hr, VRels.of_get (by simpa using hl) fun i c hc => by simpa using h (i + 1) c (by simpa using hc)⟩
theorem VPreR.of_get {M : Mem} : ∀ {cs : List AV} {l : List Value}, (∀ (i : Nat) (c : AV), cs[i]? = some c → ∃ v, l[i]? = some v ∧ VRel M true c v) → VPreR M cs l
  | [], _, _ => trivial
  | c0 :: cs, [], h => by obtain ⟨u, hu, _⟩ := h 0 c0 rfl; simp at hu
  | c0 :: cs, v :: vs, h => by
    obtain ⟨u, hu, hr⟩ := h 0 c0 rfl
    simp at hu; subst hu
    exact ⟨v, vs, rfl, hr, VPreR.of_get fun i c hc => by simpa using h (i + 1) c (by simpa using hc)⟩
theorem VPre.of_get {M : Mem} : ∀ {cs : List AV} {l : List Value}, (∀ (i : Nat) (c : AV), cs[i]? = some c → ∃ v, l[i]? = some v ∧ VRel M false c v) → VPre M cs l
  | [], _, _ => by simp [VPre]
  | c0 :: cs, [], h => by obtain ⟨u, hu, _⟩ := h 0 c0 rfl; simp at hu
  | c0 :: cs, v :: vs, h => by
    obtain ⟨u, hu, hr⟩ := h 0 c0 rfl
    simp at hu; subst hu
    exact ⟨v, vs, rfl, hr, VPre.of_get fun i c hc => by simpa using h (i + 1) c (by simpa using hc)⟩
theorem VRels.toPre {M : Mem} {cs : List AV} {l : List Value} (h : VRels M true cs l) : VPreR M cs l := VPreR.of_get h.get
theorem VPreR.drop {M : Mem} {cs : List AV} {l : List Value} (h : VPreR M cs l) (k : Nat) : VPreR M (cs.drop k) (l.drop k) :=
  VPreR.of_get fun i c hc => by
    rw [List.getElem?_drop] at hc ⊢
    exact h.get _ _ hc
theorem VPreR.take {M : Mem} {cs : List AV} {l : List Value} (h : VPreR M cs l) (k : Nat) : VPreR M (cs.take k) l :=
  VPreR.of_get fun i c hc => by
    rw [List.getElem?_take] at hc
    split at hc
    · exact h.get _ _ hc
    · cases hc
theorem VPre.drop {M : Mem} {cs : List AV} {l : List Value} (h : VPre M cs l) (k : Nat) : VPre M (cs.drop k) (l.drop k) :=
  VPre.of_get fun i c hc => by
    rw [List.getElem?_drop] at hc ⊢
    exact h.get _ _ hc
theorem VPre.take {M : Mem} {cs : List AV} {l : List Value} (h : VPre M cs l) (k : Nat) : VPre M (cs.take k) l :=
  VPre.of_get fun i c hc => by
    rw [List.getElem?_take] at hc
    split at hc
    · exact h.get _ _ hc
    · cases hc
theorem VPreR.toRels {M : Mem} {cs : List AV} {l : List Value} (h : VPreR M cs l) : VRels M true cs (l.take cs.length) :=
  VRels.of_get (by have := h.length; simp; omega) fun i c hc => by
    have hi : i < cs.length := by
      rcases Nat.lt_or_ge i cs.length with h | h
      · exact h
      · simp [List.getElem?_eq_none h] at hc
    rw [List.getElem?_take, if_pos hi]
    exact h.get i c hc
theorem VRels.drop {M : Mem} {r : Bool} {cs : List AV} {l : List Value} (h : VRels M r cs l) (k : Nat) : VRels M r (cs.drop k) (l.drop k) :=
  VRels.of_get (by simp [h.length]) fun i c hc => by
    rw [List.getElem?_drop] at hc ⊢
    exact h.get _ _ hc
theorem VRels.take {M : Mem} {r : Bool} {cs : List AV} {l : List Value} (h : VRels M r cs l) (k : Nat) : VRels M r (cs.take k) (l.take k) :=
  VRels.of_get (by simp [h.length]) fun i c hc => by
    rw [List.getElem?_take] at hc ⊢
    split at hc
    · rename_i hi; rw [if_pos hi]; exact h.get _ _ hc
    · cases hc
theorem VRels.append {M : Mem} {r : Bool} : ∀ {cs ds : List AV} {l m : List Value}, VRels M r cs l → VRels M r ds m → VRels M r (cs ++ ds) (l ++ m)
  | [], _, _, _, h, k => by cases h; exact k
  | _ :: cs, _, _, _, ⟨v, vs, e, H, K⟩, k => by subst e; exact ⟨v, _, rfl, H, VRels.append (cs := cs) K k⟩
theorem VPreR.append {M : Mem} : ∀ {cs ds : List AV} {l m : List Value}, VRels M true cs l → VPreR M ds m → VPreR M (cs ++ ds) (l ++ m)
  | [], _, _, _, h, k => by cases h; exact k
  | _ :: cs, _, _, _, ⟨v, vs, e, H, K⟩, k => by subst e; exact ⟨v, _, rfl, H, VPreR.append (cs := cs) K k⟩

/-- The world w is w0, but for new blocks and the blocks of S. -/
structure Kept (S : Nat → Prop) (w0 w : World) : Prop where
  os : w.os = w0.os
  tape : w.tape = w0.tape
  output : w.output = w0.output
  size : w0.heap.size ≤ w.heap.size
  block : ∀ k, k < w0.heap.size → ¬ S k → w.heap[k]? = w0.heap[k]?

structure Ctx where
  w0 : World
  S : Nat → Prop

def BRel (M : Mem) (b : Nat) (k : Blk) : Prop :=
  ∃ C e, M.w.heap[b]? = some (.cells C e (0, 0)) ∧ VPreR M k.cs C.toList ∧ (k.fix = true → C.size = k.cs.length)

structure HRel (X : Ctx) (h : HP) (M : Mem) : Prop where
  n : M.n = h.nt
  dom : ∀ id, M.D id ↔ (h.bk id).isSome = true
  lt : ∀ id, M.D id → id < M.n
  bk : ∀ id k, h.bk id = some k → BRel M (M.φ id) k
  inj : ∀ i j, M.D i → M.D j → M.φ i = M.φ j → i = j
  kept : Kept X.S X.w0 M.w
  old : ∀ b, M.O b → b < X.w0.heap.size
  own : ∀ id, M.D id → (X.w0.heap.size ≤ M.φ id ∨ X.S (M.φ id)) ∧ ¬ M.O (M.φ id)

structure Rel (N : Nat) (X : Ctx) (σ : AS) (M : Mem) (a : Act) : Prop where
  heap : HRel X σ.h M
  size : a.tmps.size = N
  defers : a.defers = []
  tm : ∀ t, VRel M true (σ.tm t) (a.tmps.getD t undef)

end Go.Am
