/-
  AmA: AmCore, AmHeap, AmOps, AmOps2, AmOps3, AmOps4, AmOps5, AmOps6, AmOps7, AmOps8, AmOps9, AmOps10
-/
import Derived.Orders
import Derived.Laws.Cells
import Derived.Laws.CopyRow
import Derived.Laws.Pointers
import Derived.Below
import Derived.Laws.BytesArg
import Derived.Lib.ConvBytes
import Derived.Deep.AppendSrc
import Derived.Laws.StructEq
import Derived.Lib.SliceRun
import Derived.RangeFuncRecord
set_option linter.unusedSimpArgs false
set_option linter.unusedVariables false
/-! A symbolic executor over slots and blocks of a call's own ('Am'), part 1: abstract values, states, and what they say of a frame and a world. -/
namespace Go.Am

/-- Abstract values: a pointer or slice names one of the call's own blocks by a number; 'ro', 'rp': memory known by its content alone, which nobody writes any more. -/
inductive AV where
  | int (k : IntKind) (n : Int)
  | bool (b : Bool)
  | str (s : ByteArray)
  | exact (v : Value)
  | agg (cs : List AV)
  | tup (vs : List AV)
  | fn (f : Fn) (first caps : List AV)
  | ptr (id off : Nat)
  | sl (id off esz n : Nat)
  | ro (n : Nat) (cs : List AV)
  | rp (cs : List AV)
  | nils
  | dead

structure Blk where
  cs : List AV
  fix : Bool

/-- The call's own blocks, and the next block's number. -/
structure HP where
  bk : Nat → Option Blk
  nt : Nat

structure AS where
  tm : Nat → AV
  h : HP

def upd {α : Type} (f : Nat → α) (i : Nat) (v : α) : Nat → α := fun j => if j = i then v else f j
theorem upd_same {α : Type} (f : Nat → α) (i : Nat) (v : α) : upd f i v i = v := by simp [upd]
theorem upd_other {α : Type} (f : Nat → α) (i j : Nat) (v : α) (h : j ≠ i) : upd f i v j = f j := by simp [upd, h]
theorem upd_comm {α : Type} (f : Nat → α) (i j : Nat) (v u : α) (h : i ≠ j) : upd (upd f i v) j u = upd (upd f j u) i v := by
  funext k; unfold upd; by_cases h1 : k = j <;> by_cases h2 : k = i <;> simp_all

/-- 'φ': where the call's own blocks lie; 'D': which there are; 'O': blocks of the caller's, which may be written behind the call. -/
structure Mem where
  φ : Nat → Nat
  D : Nat → Prop
  n : Nat
  O : Nat → Prop
  w : World

/-- A block that is neither the call's own nor the caller's. -/
def Mem.free (M : Mem) (b : Nat) : Prop := (∀ id, M.D id → M.φ id ≠ b) ∧ ¬ M.O b

mutual
def VRel (M : Mem) (r : Bool) : AV → Value → Prop
  | .int k n, v => v = .int k n
  | .bool b, v => v = .bool b
  | .str s, v => v = .string s
  | .exact x, v => v = x
  | .agg cs, v => ∃ a, v = .agg ⟨a⟩ ∧ VRels M r cs a
  | .tup cs, v => ∃ a, v = .tuple ⟨a⟩ ∧ VRels M r cs a
  | .fn f fs cs, v => ∃ a b, v = .func f ⟨a⟩ ⟨b⟩ ∧ VRels M r fs a ∧ VRels M r cs b
  | .ptr id off, v => r = true ∧ v.oneCell' = true ∧ id < M.n ∧ (M.D id → v = .pointer (some ⟨M.φ id, off, none⟩))
  | .sl id off esz n, v => r = true ∧ v.oneCell' = true ∧ id < M.n ∧ (M.D id → ∃ cap e sz, v = .slice (some ⟨M.φ id, off, none⟩) n cap ∧ n ≤ cap ∧ M.w.shape? (M.φ id) = some (e, sz) ∧ off + cap * esz ≤ sz)
  | .ro n cs, v => ∃ base cap, v = .slice base n cap ∧ n ≤ cap ∧
      (cs = [] ∨ ∃ b off C e fz, base = some ⟨b, off, none⟩ ∧ M.w.heap[b]? = some (.cells C e fz) ∧ M.free b ∧ VPre M cs (C.toList.drop off))
  | .rp cs, v => ∃ b off C e fz, v = .pointer (some ⟨b, off, none⟩) ∧ M.w.heap[b]? = some (.cells C e fz) ∧ M.free b ∧ VPre M cs (C.toList.drop off)
  | .nils, v => v = .slice none 0 0
  | .dead, _ => True
def VRels (M : Mem) (r : Bool) : List AV → List Value → Prop
  | [], l => l = []
  | c :: cs, l => ∃ v vs, l = v :: vs ∧ VRel M r c v ∧ VRels M r cs vs
def VPre (M : Mem) : List AV → List Value → Prop
  | [], _ => True
  | c :: cs, l => ∃ v vs, l = v :: vs ∧ VRel M false c v ∧ VPre M cs vs
end

/-- What a prefix of cells reads as; the call's own blocks may be named. -/
def VPreR (M : Mem) : List AV → List Value → Prop
  | [], _ => True
  | c :: cs, l => ∃ v vs, l = v :: vs ∧ VRel M true c v ∧ VPreR M cs vs

/-- M' keeps all that M says. -/
structure Mem.le (M M' : Mem) : Prop where
  n : M.n ≤ M'.n
  D : ∀ id, id < M.n → M'.D id → M.D id ∧ M'.φ id = M.φ id ∧ M'.w.shape? (M.φ id) = M.w.shape? (M.φ id)
  ro : ∀ b C e fz, M.free b → M.w.heap[b]? = some (.cells C e fz) → (∃ fz', M'.w.heap[b]? = some (.cells C e fz')) ∧ M'.free b

mutual
theorem VRel.mono {M M' : Mem} (h : M.le M') {r : Bool} : ∀ (a : AV) (v : Value), VRel M r a v → VRel M' r a v
  | .int _ _, _, H | .bool _, _, H | .str _, _, H | .exact _, _, H | .nils, _, H | .dead, _, H => H
  | .agg cs, _, ⟨a, e, H⟩ => ⟨a, e, VRels.mono h cs a H⟩
  | .tup cs, _, ⟨a, e, H⟩ => ⟨a, e, VRels.mono h cs a H⟩
  | .fn _ fs cs, _, ⟨a, b, e, H, K⟩ => ⟨a, b, e, VRels.mono h fs a H, VRels.mono h cs b K⟩
  | .ptr id off, v, ⟨hr, ho, hn, e⟩ => ⟨hr, ho, Nat.lt_of_lt_of_le hn h.n, fun hd => by
      obtain ⟨h1, h2, _⟩ := h.D id hn hd
      rw [h2]; exact e h1⟩
  | .sl id off esz n, v, ⟨hr, ho, hn, H⟩ => ⟨hr, ho, Nat.lt_of_lt_of_le hn h.n, fun hd => by
      obtain ⟨h1, h2, h3⟩ := h.D id hn hd
      rw [h2, h3]; exact H h1⟩
  | .ro n cs, v, ⟨base, cap, e, hn, H⟩ => ⟨base, cap, e, hn, H.imp id fun ⟨b, off, C, el, fz, hb, hh, hne, hp⟩ =>
      let ⟨⟨fz', h1⟩, h2⟩ := h.ro b C el fz hne hh
      ⟨b, off, C, el, fz', hb, h1, h2, VPre.mono h cs _ hp⟩⟩
  | .rp cs, v, ⟨b, off, C, el, fz, hb, hh, hne, hp⟩ =>
      let ⟨⟨fz', h1⟩, h2⟩ := h.ro b C el fz hne hh
      ⟨b, off, C, el, fz', hb, h1, h2, VPre.mono h cs _ hp⟩
theorem VRels.mono {M M' : Mem} (h : M.le M') {r : Bool} : ∀ (cs : List AV) (l : List Value), VRels M r cs l → VRels M' r cs l
  | [], _, H => H
  | c :: cs, _, ⟨v, vs, e, H, K⟩ => ⟨v, vs, e, VRel.mono h c v H, VRels.mono h cs vs K⟩
theorem VPre.mono {M M' : Mem} (h : M.le M') : ∀ (cs : List AV) (l : List Value), VPre M cs l → VPre M' cs l
  | [], _, H => H
  | c :: cs, _, ⟨v, vs, e, H, K⟩ => ⟨v, vs, e, VRel.mono h c v H, VPre.mono h cs vs K⟩
end
theorem VPreR.mono {M M' : Mem} (h : M.le M') : ∀ (cs : List AV) (l : List Value), VPreR M cs l → VPreR M' cs l
  | [], _, H => H
  | c :: cs, _, ⟨v, vs, e, H, K⟩ => ⟨v, vs, e, VRel.mono h c v H, VPreR.mono h cs vs K⟩

theorem Mem.le.refl (M : Mem) : M.le M := ⟨Nat.le_refl _, fun _ _ h => ⟨h, rfl, rfl⟩, fun _ _ _ fz h hh => ⟨⟨fz, hh⟩, h⟩⟩

mutual
theorem VRel.flag {M : Mem} : ∀ (a : AV) (v : Value), VRel M false a v → VRel M true a v
  | .int _ _, _, H | .bool _, _, H | .str _, _, H | .exact _, _, H | .nils, _, H | .dead, _, H => H
  | .agg cs, _, ⟨a, e, H⟩ => ⟨a, e, VRels.flag cs a H⟩
  | .tup cs, _, ⟨a, e, H⟩ => ⟨a, e, VRels.flag cs a H⟩
  | .fn _ fs cs, _, ⟨a, b, e, H, K⟩ => ⟨a, b, e, VRels.flag fs a H, VRels.flag cs b K⟩
  | .ptr id off, v, ⟨hr, _⟩ => by cases hr
  | .sl id off esz n, v, ⟨hr, _⟩ => by cases hr
  | .ro n cs, v, H => H
  | .rp cs, v, H => H
theorem VRels.flag {M : Mem} : ∀ (cs : List AV) (l : List Value), VRels M false cs l → VRels M true cs l
  | [], _, H => H
  | c :: cs, _, ⟨v, vs, e, H, K⟩ => ⟨v, vs, e, VRel.flag c v H, VRels.flag cs vs K⟩
end
theorem VPre.flag {M : Mem} : ∀ (cs : List AV) (l : List Value), VPre M cs l → VPreR M cs l
  | [], _, H => H
  | c :: cs, _, ⟨v, vs, e, H, K⟩ => ⟨v, vs, e, VRel.flag c v H, VPre.flag cs vs K⟩

/-! ### Lists of cells -/
theorem VRels.length {M : Mem} {r : Bool} : ∀ {cs : List AV} {l : List Value}, VRels M r cs l → l.length = cs.length
  | [], _, h => by cases h; rfl
  | _ :: cs, _, ⟨_, _, e, _, K⟩ => by subst e; simp [VRels.length (cs := cs) K]
theorem VPreR.length {M : Mem} : ∀ {cs : List AV} {l : List Value}, VPreR M cs l → cs.length ≤ l.length
  | [], _, _ => Nat.zero_le _
  | _ :: cs, _, ⟨_, _, e, _, K⟩ => by subst e; simpa using VPreR.length (cs := cs) K
theorem VPre.length {M : Mem} {cs : List AV} {l : List Value} (h : VPre M cs l) : cs.length ≤ l.length := VPreR.length (VPre.flag _ _ h)
theorem VRels.get {M : Mem} {r : Bool} : ∀ {cs : List AV} {l : List Value}, VRels M r cs l → ∀ (i : Nat) (c : AV), cs[i]? = some c → ∃ v, l[i]? = some v ∧ VRel M r c v
  | [], _, _, i, c, hc => by simp at hc
  | c0 :: cs, _, ⟨v, vs, e, H, K⟩, i, c, hc => by
    subst e
    cases i with
    | zero => simp at hc; subst hc; exact ⟨v, rfl, H⟩
    | succ i => simpa using VRels.get (cs := cs) K i c (by simpa using hc)
theorem VPreR.get {M : Mem} : ∀ {cs : List AV} {l : List Value}, VPreR M cs l → ∀ (i : Nat) (c : AV), cs[i]? = some c → ∃ v, l[i]? = some v ∧ VRel M true c v
  | [], _, _, i, c, hc => by simp at hc
  | c0 :: cs, _, ⟨v, vs, e, H, K⟩, i, c, hc => by
    subst e
    cases i with
    | zero => simp at hc; subst hc; exact ⟨v, rfl, H⟩
    | succ i => simpa using VPreR.get (cs := cs) K i c (by simpa using hc)
theorem VPre.get {M : Mem} : ∀ {cs : List AV} {l : List Value}, VPre M cs l → ∀ (i : Nat) (c : AV), cs[i]? = some c → ∃ v, l[i]? = some v ∧ VRel M false c v
  | [], _, _, i, c, hc => by simp at hc
  | c0 :: cs, _, ⟨v, vs, e, H, K⟩, i, c, hc => by
    subst e
    cases i with
    | zero => simp at hc; subst hc; exact ⟨v, rfl, H⟩
    | succ i => simpa using VPre.get (cs := cs) K i c (by simpa using hc)
theorem VRels.of_get {M : Mem} {r : Bool} : ∀ {cs : List AV} {l : List Value}, l.length = cs.length → (∀ (i : Nat) (c : AV), cs[i]? = some c → ∃ v, l[i]? = some v ∧ VRel M r c v) → VRels M r cs l
  | [], l, hl, _ => by simpa [VRels] using hl
  | c0 :: cs, [], hl, _ => by simp at hl
  | c0 :: cs, v :: vs, hl, h => by
    obtain ⟨u, hu, hr⟩ := h 0 c0 rfl
    simp at hu; subst hu
    exact ⟨v, vs, rfl, hr, VRels.of_get (by simpa using hl) fun i c hc => by simpa using h (i + 1) c (by simpa using hc)⟩
theorem VPreR.of_get {M : Mem} : ∀ {cs : List AV} {l : List Value}, (∀ (i : Nat) (c : AV), cs[i]? = some c → ∃ v, l[i]? = some v ∧ VRel M true c v) → VPreR M cs l
  | [], _, _ => trivial
  | c0 :: cs, [], h => by obtain ⟨u, hu, _⟩ := h 0 c0 rfl; simp at hu
  | c0 :: cs, v :: vs, h => by
    obtain ⟨u, hu, hr⟩ := h 0 c0 rfl
    simp at hu; subst hu
    exact ⟨v, vs, rfl, hr, VPreR.of_get fun i c hc => by simpa using h (i + 1) c (by simpa using hc)⟩
theorem VPre.of_get {M : Mem} : ∀ {cs : List AV} {l : List Value}, (∀ (i : Nat) (c : AV), cs[i]? = some c → ∃ v, l[i]? = some v ∧ VRel M false c v) → VPre M cs l
  | [], _, _ => by simp [VPre]
  | c0 :: cs, [], h => by obtain ⟨u, hu, _⟩ := h 0 c0 rfl; simp at hu
  | c0 :: cs, v :: vs, h => by
    obtain ⟨u, hu, hr⟩ := h 0 c0 rfl
    simp at hu; subst hu
    exact ⟨v, vs, rfl, hr, VPre.of_get fun i c hc => by simpa using h (i + 1) c (by simpa using hc)⟩
theorem VRels.toPre {M : Mem} {cs : List AV} {l : List Value} (h : VRels M true cs l) : VPreR M cs l := VPreR.of_get h.get
theorem VPreR.drop {M : Mem} {cs : List AV} {l : List Value} (h : VPreR M cs l) (k : Nat) : VPreR M (cs.drop k) (l.drop k) :=
  VPreR.of_get fun i c hc => by
    rw [List.getElem?_drop] at hc ⊢
    exact h.get _ _ hc
theorem VPreR.take {M : Mem} {cs : List AV} {l : List Value} (h : VPreR M cs l) (k : Nat) : VPreR M (cs.take k) l :=
  VPreR.of_get fun i c hc => by
    rw [List.getElem?_take] at hc
    split at hc
    · exact h.get _ _ hc
    · cases hc
theorem VPre.drop {M : Mem} {cs : List AV} {l : List Value} (h : VPre M cs l) (k : Nat) : VPre M (cs.drop k) (l.drop k) :=
  VPre.of_get fun i c hc => by
    rw [List.getElem?_drop] at hc ⊢
    exact h.get _ _ hc
theorem VPre.take {M : Mem} {cs : List AV} {l : List Value} (h : VPre M cs l) (k : Nat) : VPre M (cs.take k) l :=
  VPre.of_get fun i c hc => by
    rw [List.getElem?_take] at hc
    split at hc
    · exact h.get _ _ hc
    · cases hc
theorem VPreR.toRels {M : Mem} {cs : List AV} {l : List Value} (h : VPreR M cs l) : VRels M true cs (l.take cs.length) :=
  VRels.of_get (by have := h.length; simp; omega) fun i c hc => by
    have hi : i < cs.length := by
      rcases Nat.lt_or_ge i cs.length with h | h
      · exact h
      · simp [List.getElem?_eq_none h] at hc
    rw [List.getElem?_take, if_pos hi]
    exact h.get i c hc
theorem VRels.drop {M : Mem} {r : Bool} {cs : List AV} {l : List Value} (h : VRels M r cs l) (k : Nat) : VRels M r (cs.drop k) (l.drop k) :=
  VRels.of_get (by simp [h.length]) fun i c hc => by
    rw [List.getElem?_drop] at hc ⊢
    exact h.get _ _ hc
theorem VRels.take {M : Mem} {r : Bool} {cs : List AV} {l : List Value} (h : VRels M r cs l) (k : Nat) : VRels M r (cs.take k) (l.take k) :=
  VRels.of_get (by simp [h.length]) fun i c hc => by
    rw [List.getElem?_take] at hc ⊢
    split at hc
    · rename_i hi; rw [if_pos hi]; exact h.get _ _ hc
    · cases hc
theorem VRels.append {M : Mem} {r : Bool} : ∀ {cs ds : List AV} {l m : List Value}, VRels M r cs l → VRels M r ds m → VRels M r (cs ++ ds) (l ++ m)
  | [], _, _, _, h, k => by cases h; exact k
  | _ :: cs, _, _, _, ⟨v, vs, e, H, K⟩, k => by subst e; exact ⟨v, _, rfl, H, VRels.append (cs := cs) K k⟩
theorem VPreR.append {M : Mem} : ∀ {cs ds : List AV} {l m : List Value}, VRels M true cs l → VPreR M ds m → VPreR M (cs ++ ds) (l ++ m)
  | [], _, _, _, h, k => by cases h; exact k
  | _ :: cs, _, _, _, ⟨v, vs, e, H, K⟩, k => by subst e; exact ⟨v, _, rfl, H, VPreR.append (cs := cs) K k⟩

/-- The world w is w0, but for new blocks and the blocks of S. -/
structure Kept (S : Nat → Prop) (w0 w : World) : Prop where
  os : w.os = w0.os
  tape : w.tape = w0.tape
  output : w.output = w0.output
  size : w0.heap.size ≤ w.heap.size
  block : ∀ k, k < w0.heap.size → ¬ S k → w.heap[k]? = w0.heap[k]?

structure Ctx where
  w0 : World
  S : Nat → Prop
  k : Nat
  M0 : Mem
  dl : List Deferred

/-- The activation's deferred calls: none, or the mark of a range over a function. -/
def Ctx.okD (X : Ctx) : Prop := X.dl = [] ∨ ∃ D, X.dl = [{ target := .collected D, args := #[] }] ∧ ¬ X.S D ∧ X.w0.heap[D]? = some (.deferred (some []))

def BRel (M : Mem) (b : Nat) (k : Blk) : Prop :=
  ∃ C e, M.w.heap[b]? = some (.cells C e (0, 0)) ∧ VPreR M k.cs C.toList ∧ (k.fix = true → C.size = k.cs.length)

structure HRel (X : Ctx) (h : HP) (M : Mem) : Prop where
  n : M.n = h.nt
  dom : ∀ id, M.D id ↔ (h.bk id).isSome = true
  lt : ∀ id, M.D id → id < M.n
  bk : ∀ id k, h.bk id = some k → BRel M (M.φ id) k
  inj : ∀ i j, M.D i → M.D j → M.φ i = M.φ j → i = j
  kept : Kept X.S X.w0 M.w
  old : ∀ b, M.O b → b < X.w0.heap.size
  own : ∀ id, M.D id → (X.w0.heap.size ≤ M.φ id ∨ X.S (M.φ id)) ∧ ¬ M.O (M.φ id)

/-- The caller's own blocks, as far as they are still known, lie where they lay. -/
def Inv (X : Ctx) (M : Mem) : Prop := X.k ≤ M.n ∧ ∀ id, id < X.k → M.D id → X.M0.D id ∧ M.φ id = X.M0.φ id ∧ M.w.shape? (X.M0.φ id) = X.M0.w.shape? (X.M0.φ id)
theorem Inv.le {X : Ctx} {M M' : Mem} (h : Inv X M) (hl : M.le M') : Inv X M' :=
  ⟨Nat.le_trans h.1 hl.n, fun id hk hD => by
    obtain ⟨h1, h2, h3⟩ := hl.D id (Nat.lt_of_lt_of_le hk h.1) hD
    obtain ⟨k1, k2, k3⟩ := h.2 id hk h1
    exact ⟨k1, h2.trans k2, by rw [← k2, h3, k2, k3]⟩⟩
structure Rel (N : Nat) (X : Ctx) (σ : AS) (M : Mem) (a : Act) : Prop where
  heap : HRel X σ.h M
  size : a.tmps.size = N
  defers : a.defers = X.dl
  okD : X.okD
  tm : ∀ t, VRel M true (σ.tm t) (a.tmps.getD t undef)
  inv : Inv X M

end Go.Am

/-! 'Am', part 2: what a new block, a store and a call's own new memory do to what is known of the call's blocks. -/
namespace Go.Am

theorem addr_add (b o j : Nat) : (⟨b, o, none⟩ : Addr).add j = ⟨b, o + j, none⟩ := by unfold Addr.add; split <;> simp_all

theorem setRow_size (w : World) (g : Nat) (c : Array Value) : (w.setRow g c).heap.size = w.heap.size := by simp [World.setRow]
theorem setRow_ne (w : World) (g k : Nat) (c : Array Value) (h : k ≠ g) : (w.setRow g c).heap[k]? = w.heap[k]? := by
  simp only [World.setRow, Array.getElem?_modify]
  rw [if_neg (by omega)]
theorem setRow_shape (w : World) (g : Nat) (C c : Array Value) (e : TypeId) (f : Nat × Nat) (hg : w.heap[g]? = some (.cells C e f)) (hs : c.size = C.size) (k : Nat) :
    (w.setRow g c).shape? k = w.shape? k := by
  by_cases h : k = g
  · subst h
    simp [World.shape?, setRow_heap w k C c e f hg, hg, hs]
  · simp [World.shape?, setRow_ne w g k c h]

variable {X : Ctx} {h : HP} {M : Mem}

theorem HRel.w0_le (H : HRel X h M) : X.w0.heap.size ≤ M.w.heap.size := H.kept.size

theorem block_lt {w : World} {b : Nat} {o : Obj} (h : w.heap[b]? = some o) : b < w.heap.size := by
  rcases Nat.lt_or_ge b w.heap.size with h' | h'
  · exact h'
  · simp [Array.getElem?_eq_none h'] at h

theorem HRel.setRow (H : HRel X h M) {id : Nat} {k : Blk} (hb : h.bk id = some k) {C C' : Array Value} {e : TypeId}
    (hC : M.w.heap[M.φ id]? = some (.cells C e (0, 0))) (hs : C'.size = C.size) {k' : Blk} (hp : VPreR M k'.cs C'.toList) (hf : k'.fix = true → C'.size = k'.cs.length) :
    M.le { M with w := M.w.setRow (M.φ id) C' } ∧ HRel X { h with bk := upd h.bk id (some k') } { M with w := M.w.setRow (M.φ id) C' } := by
  have hD : M.D id := (H.dom id).2 (by simp [hb])
  have hle : M.le { M with w := M.w.setRow (M.φ id) C' } := by
    refine ⟨Nat.le_refl _, fun j _ hj => ⟨hj, rfl, setRow_shape _ _ _ _ _ _ hC hs _⟩, fun b D el fz hne hh => ⟨⟨fz, ?_⟩, hne⟩⟩
    show (M.w.setRow (M.φ id) C').heap[b]? = _
    rw [setRow_ne _ _ _ _ (Ne.symm (hne.1 id hD))]; exact hh
  refine ⟨hle, ⟨H.n, fun j => ?_, H.lt, fun j kj hj => ?_, H.inj, ?_, H.old, H.own⟩⟩
  · show M.D j ↔ _
    rw [H.dom j]
    by_cases hji : j = id
    · subst hji; simp [upd, hb]
    · simp [upd, hji]
  · by_cases hji : j = id
    · subst hji
      simp only [upd_same, Option.some.injEq] at hj
      subst hj
      exact ⟨C', e, setRow_heap _ _ _ _ _ _ hC, VPreR.mono hle _ _ hp, hf⟩
    · simp only [upd_other _ _ _ _ hji] at hj
      obtain ⟨Cj, ej, h1, h2, h3⟩ := H.bk j kj hj
      refine ⟨Cj, ej, ?_, VPreR.mono hle _ _ h2, h3⟩
      show (M.w.setRow (M.φ id) C').heap[M.φ j]? = _
      rw [setRow_ne _ _ _ _ (fun he => hji (H.inj j id ((H.dom j).2 (by simp [hj])) hD he))]
      exact h1
  · refine ⟨H.kept.os, H.kept.tape, H.kept.output, by rw [setRow_size]; exact H.kept.size, fun b hb hS => ?_⟩
    show (M.w.setRow (M.φ id) C').heap[b]? = _
    rw [setRow_ne]
    · exact H.kept.block b hb hS
    · rintro rfl
      rcases (H.own id hD).1 with h' | h'
      · omega
      · exact hS h'

/-- Memory that is new, or marks of drawn answers: what there was reads as it did. -/
structure Ext (w w' : World) : Prop where
  os : w'.os = w.os
  tape : w'.tape = w.tape
  output : w'.output = w.output
  size : w.heap.size ≤ w'.heap.size
  block : ∀ k, k < w.heap.size → w'.heap[k]? = w.heap[k]?

theorem Ext.refl (w : World) : Ext w w := ⟨rfl, rfl, rfl, Nat.le_refl _, fun _ _ => rfl⟩
theorem Ext.trans {a b c : World} (h : Ext a b) (k : Ext b c) : Ext a c :=
  ⟨k.os.trans h.os, k.tape.trans h.tape, k.output.trans h.output, Nat.le_trans h.size k.size, fun i hi => (k.block i (Nat.lt_of_lt_of_le hi h.size)).trans (h.block i hi)⟩
theorem Ext.drawn (w : World) (n : Nat) : Ext w { w with drawn := n } := ⟨rfl, rfl, rfl, Nat.le_refl _, fun _ _ => rfl⟩
theorem Ext.push (w : World) (o : Obj) : Ext w { w with heap := w.heap.push o } :=
  ⟨rfl, rfl, rfl, by simp, fun k hk => by show (w.heap.push o)[k]? = _; rw [Array.getElem?_push, if_neg (by omega)]⟩
theorem Ext.of_below {w w' : World} (h : Go.RowKit.Below w.heap.size w w') : Ext w w' := ⟨h.os, h.tape, h.output, h.size, h.block⟩
theorem Ext.get {w w' : World} (h : Ext w w') {b : Nat} {o : Obj} (hb : w.heap[b]? = some o) : w'.heap[b]? = some o := by
  rw [h.block b (block_lt hb)]; exact hb
theorem Ext.shape {w w' : World} (h : Ext w w') {b : Nat} (hb : b < w.heap.size) : w'.shape? b = w.shape? b := by
  simp [World.shape?, h.block b hb]

theorem HRel.ext (H : HRel X h M) {w' : World} (he : Ext M.w w') : M.le { M with w := w' } ∧ HRel X h { M with w := w' } := by
  have hlt : ∀ id, M.D id → M.φ id < M.w.heap.size := fun id hd => by
    obtain ⟨k, hk⟩ := Option.isSome_iff_exists.1 ((H.dom id).1 hd)
    obtain ⟨C, e, h1, _⟩ := H.bk id k hk
    exact block_lt h1
  have hle : M.le { M with w := w' } :=
    ⟨Nat.le_refl _, fun j _ hj => ⟨hj, rfl, he.shape (hlt j hj)⟩, fun b D el fz hne hh => ⟨⟨fz, he.get hh⟩, hne⟩⟩
  refine ⟨hle, ⟨H.n, H.dom, H.lt, fun j kj hj => ?_, H.inj, ?_, H.old, H.own⟩⟩
  · obtain ⟨C, e, h1, h2, h3⟩ := H.bk j kj hj
    exact ⟨C, e, he.get h1, VPreR.mono hle _ _ h2, h3⟩
  · exact ⟨he.os.trans H.kept.os, he.tape.trans H.kept.tape, he.output.trans H.kept.output, Nat.le_trans H.kept.size he.size,
      fun b hb hS => (he.block b (Nat.lt_of_lt_of_le hb H.kept.size)).trans (H.kept.block b hb hS)⟩

def HP.add (h : HP) (k : Blk) : HP := ⟨upd h.bk h.nt (some k), h.nt + 1⟩
def Mem.add (M : Mem) (o : Obj) : Mem := { φ := upd M.φ M.n M.w.heap.size, D := fun j => M.D j ∨ j = M.n, n := M.n + 1, O := M.O, w := { M.w with heap := M.w.heap.push o } }

theorem HRel.φ_lt (H : HRel X h M) {id : Nat} (hd : M.D id) : M.φ id < M.w.heap.size := by
  obtain ⟨k, hk⟩ := Option.isSome_iff_exists.1 ((H.dom id).1 hd)
  obtain ⟨C, e, h1, _⟩ := H.bk id k hk
  exact block_lt h1

theorem HRel.add_le (H : HRel X h M) (o : Obj) : M.le (M.add o) := by
  refine ⟨Nat.le_succ _, fun j hj hD => ?_, fun b D el fz hne hh => ⟨⟨fz, (Ext.push M.w o).get hh⟩, fun j hj => ?_, hne.2⟩⟩
  · have hjn : j ≠ M.n := by omega
    have hDj : M.D j := hD.resolve_right hjn
    exact ⟨hDj, upd_other _ _ _ _ hjn, (Ext.push M.w o).shape (H.φ_lt hDj)⟩
  · by_cases hjn : j = M.n
    · subst hjn
      show upd M.φ M.n M.w.heap.size M.n ≠ b
      rw [upd_same]
      have := block_lt hh
      omega
    · show upd M.φ M.n M.w.heap.size j ≠ b
      rw [upd_other _ _ _ _ hjn]
      exact hne.1 j (hj.resolve_right hjn)

theorem HRel.add (H : HRel X h M) {C : Array Value} {e : TypeId} {k : Blk} (hp : VPreR M k.cs C.toList) (hf : k.fix = true → C.size = k.cs.length) :
    HRel X (h.add k) (M.add (.cells C e (0, 0))) := by
  have hle := H.add_le (.cells C e (0, 0))
  have hn : M.n = h.nt := H.n
  refine ⟨by simp [Mem.add, HP.add, hn], fun j => ?_, fun j hj => ?_, fun j kj hj => ?_, fun i j hi hj hij => ?_, ?_, H.old, fun j hj => ?_⟩
  · show (M.D j ∨ j = M.n) ↔ (upd h.bk h.nt (some k) j).isSome = true
    by_cases hjn : j = h.nt
    · simp [upd, hjn, hn]
    · simp [upd, hjn, hn, H.dom j]
  · show j < M.n + 1
    rcases hj with hj | hj
    · have := H.lt j hj; omega
    · omega
  · by_cases hjn : j = h.nt
    · subst hjn
      simp only [HP.add, upd_same, Option.some.injEq] at hj
      subst hj
      refine ⟨C, e, ?_, VPreR.mono hle _ _ hp, hf⟩
      show (M.w.heap.push _)[upd M.φ M.n M.w.heap.size h.nt]? = _
      rw [hn, upd_same]; simp
    · simp only [HP.add, upd_other _ _ _ _ hjn] at hj
      obtain ⟨Cj, ej, h1, h2, h3⟩ := H.bk j kj hj
      refine ⟨Cj, ej, ?_, VPreR.mono hle _ _ h2, h3⟩
      show (M.w.heap.push _)[upd M.φ M.n M.w.heap.size j]? = _
      rw [hn, upd_other _ _ _ _ hjn]
      exact (Ext.push M.w _).get h1
  · change upd M.φ M.n M.w.heap.size i = upd M.φ M.n M.w.heap.size j at hij
    by_cases hin : i = M.n <;> by_cases hjn : j = M.n
    · omega
    · subst hin
      rw [upd_same, upd_other _ _ _ _ hjn] at hij
      have := H.φ_lt (hj.resolve_right hjn)
      omega
    · subst hjn
      rw [upd_same, upd_other _ _ _ _ hin] at hij
      have := H.φ_lt (hi.resolve_right hin)
      omega
    · rw [upd_other _ _ _ _ hin, upd_other _ _ _ _ hjn] at hij
      exact H.inj i j (hi.resolve_right hin) (hj.resolve_right hjn) hij
  · have hx := Ext.push M.w (.cells C e (0, 0))
    exact ⟨H.kept.os, H.kept.tape, H.kept.output, Nat.le_trans H.kept.size hx.size,
      fun b hb hS => (hx.block b (Nat.lt_of_lt_of_le hb H.kept.size)).trans (H.kept.block b hb hS)⟩
  · show (_ ≤ upd M.φ M.n M.w.heap.size j ∨ X.S (upd M.φ M.n M.w.heap.size j)) ∧ ¬ M.O (upd M.φ M.n M.w.heap.size j)
    by_cases hjn : j = M.n
    · subst hjn; rw [upd_same]; exact ⟨.inl H.kept.size, fun ho => by have := H.old _ ho; have := H.kept.size; omega⟩
    · rw [upd_other _ _ _ _ hjn]; exact H.own j (hj.resolve_right hjn)

/-- A block is given up: nothing is said of it any more. -/
def HP.drop (h : HP) (id : Nat) : HP := { h with bk := upd h.bk id none }
def Mem.drop (M : Mem) (id : Nat) : Mem := { M with D := fun j => M.D j ∧ j ≠ id }
theorem Mem.drop_le (M : Mem) (id : Nat) : M.le (M.drop id) :=
  ⟨Nat.le_refl _, fun _ _ hj => ⟨hj.1, rfl, rfl⟩, fun _ _ _ fz hne hh => ⟨⟨fz, hh⟩, fun j hj => hne.1 j hj.1, hne.2⟩⟩
theorem HRel.drop (H : HRel X h M) (id : Nat) : HRel X (h.drop id) (M.drop id) := by
  have hle := M.drop_le id
  refine ⟨H.n, fun j => ?_, fun j hj => H.lt j hj.1, fun j kj hj => ?_, fun i j hi hj => H.inj i j hi.1 hj.1, H.kept, H.old, fun j hj => H.own j hj.1⟩
  · show (M.D j ∧ j ≠ id) ↔ (upd h.bk id none j).isSome = true
    by_cases hji : j = id
    · simp [upd, hji]
    · simp [upd, hji, H.dom j]
  · by_cases hji : j = id
    · subst hji; simp [HP.drop, upd_same] at hj
    · simp only [HP.drop, upd_other _ _ _ _ hji] at hj
      obtain ⟨C, e, h1, h2, h3⟩ := H.bk j kj hj
      exact ⟨C, e, h1, VPreR.mono hle _ _ h2, h3⟩

/-- A block is given up, and turned in whatever way. -/
theorem HRel.giveUp (H : HRel X h M) {id : Nat} {k : Blk} (hb : h.bk id = some k) {w' : World} (h1 : w'.os = M.w.os) (h2 : w'.tape = M.w.tape) (h3 : w'.output = M.w.output) (h4 : w'.heap.size = M.w.heap.size)
    (h5 : ∀ b, b ≠ M.φ id → w'.heap[b]? = M.w.heap[b]?) : M.le { M.drop id with w := w' } ∧ HRel X (h.drop id) { M.drop id with w := w' } := by
  have hD : M.D id := (H.dom id).2 (by simp [hb])
  have hne : ∀ j, (M.drop id).D j → M.φ j ≠ M.φ id := fun j hj he => hj.2 (H.inj j id hj.1 hD he)
  have hle : M.le { M.drop id with w := w' } := by
    refine ⟨Nat.le_refl _, fun j _ hj => ⟨hj.1, rfl, ?_⟩, fun b C e fz hf hh => ⟨⟨fz, ?_⟩, fun j hj => hf.1 j hj.1, hf.2⟩⟩
    · show w'.shape? (M.φ j) = _
      simp only [World.shape?, h5 _ (hne j hj)]
    · show w'.heap[b]? = _
      rw [h5 _ (Ne.symm (hf.1 id hD))]; exact hh
  have R := H.drop id
  refine ⟨hle, ⟨R.n, R.dom, R.lt, fun j kj hj => ?_, R.inj, ⟨h1.trans H.kept.os, h2.trans H.kept.tape, h3.trans H.kept.output, by show _ ≤ w'.heap.size; rw [h4]; exact H.kept.size, fun b hbb hS => ?_⟩, R.old, R.own⟩⟩
  · have hDj : (M.drop id).D j := (R.dom j).2 (by simp [hj])
    have hji : j ≠ id := hDj.2
    have hj2 : h.bk j = some kj := by
      simp only [HP.drop] at hj
      rwa [upd_other _ _ _ _ hji] at hj
    obtain ⟨C, e, q1, q2, q3⟩ := H.bk j kj hj2
    exact ⟨C, e, by show w'.heap[M.φ j]? = _; rw [h5 _ (hne j hDj)]; exact q1, VPreR.mono hle _ _ q2, q3⟩
  · show w'.heap[b]? = _
    rw [h5 b]
    · exact H.kept.block b hbb hS
    · rintro rfl
      rcases (H.own id hD).1 with h' | h'
      · omega
      · exact hS h'
/-- What may be turned is told less narrowly. -/
theorem HRel.wide {Y : Ctx} (H : HRel X h M) (hw : Y.w0 = X.w0) (hS : ∀ b, X.S b → Y.S b) : HRel Y h M :=
  ⟨H.n, H.dom, H.lt, H.bk, H.inj, ⟨by rw [hw]; exact H.kept.os, by rw [hw]; exact H.kept.tape, by rw [hw]; exact H.kept.output, by rw [hw]; exact H.kept.size, fun b hb hn => by rw [hw] at hb ⊢; exact H.kept.block b hb fun h => hn (hS b h)⟩,
    fun b hb => by rw [hw]; exact H.old b hb, fun id hd => ⟨(H.own id hd).1.imp (fun h => by rw [hw]; exact h) (hS _), (H.own id hd).2⟩⟩

end Go.Am

/-! 'Am', part 3: the operations on abstract values, and that the model's operations do what they say. -/
namespace Go.Am

/-- What is asked of a type. -/
inductive TD where
  | bool | str
  | int (k : IntKind)
  | slice (e : TypeId) (es : Nat) (ea : Bool) (eb : Nat)
  | array (n : Nat) (e : TypeId) (es : Nat) (ea : Bool)
  | struct (fs : List (Nat × Nat × Bool))
  | other

def isAggD : TypeDesc → Bool
  | .struct _ | .array _ _ => true
  | _ => false
/-- A type's size in cells, its bytes, whether it is a struct or an array. -/
def elI (P : Program) (t : TypeId) : Option (Nat × Nat × Bool) :=
  match P.info? t, P.underlying t with
  | some i, some d => some (i.size, i.bytes, isAggD d)
  | _, _ => none
def fieldsI (P : Program) : List Field → Option (List (Nat × Nat × Bool))
  | [] => some []
  | f :: fs => match elI P f.type, fieldsI P fs with
    | some (s, _, a), some r => some ((f.offset, s, a) :: r)
    | _, _ => none

def TD.of (P : Program) : TypeDesc → TD
  | .bool => .bool
  | .string => .str
  | .int k => .int k
  | .slice e => match elI P e with
    | some (s, b, a) => .slice e s a b
    | none => .other
  | .array n e => match elI P e with
    | some (s, _, a) => .array n e s a
    | none => .other
  | .struct fs => match fieldsI P fs.toList with
    | some r => .struct r
    | none => .other
  | _ => .other

def cellAV : Value → AV
  | .int k n => .int k n
  | .bool b => .bool b
  | .string s => .str s
  | .slice none 0 0 => .nils
  | v => .exact v

structure TyI where
  size : Nat
  bytes : Nat
  agg : Bool
  zero : List AV
  td : TD

def tyI (P : Program) (t : TypeId) : Option TyI :=
  match P.info? t, P.underlying t with
  | some i, some d => match i.zero with
    | some z => some ⟨i.size, i.bytes, isAggD d, z.cells.toList.map cellAV, TD.of P d⟩
    | none => none
  | _, _ => none

def toAV : Value → AV
  | .agg cs => .agg (cs.toList.map cellAV)
  | v => cellAV v

def AS.ev (σ : AS) : Operand → AV
  | .tmp t => σ.tm t
  | .const v => toAV v
  | .func f => .fn (.func f) [] []
  | .global _ => .dead

theorem cellAV_rel (M : Mem) (r : Bool) (v : Value) : VRel M r (cellAV v) v := by
  unfold cellAV; split <;> simp [VRel]
theorem map_cellAV_rel (M : Mem) (r : Bool) : ∀ l : List Value, VRels M r (l.map cellAV) l
  | [] => rfl
  | v :: l => ⟨v, l, rfl, cellAV_rel M r v, map_cellAV_rel M r l⟩
theorem toAV_rel (M : Mem) (r : Bool) (v : Value) : VRel M r (toAV v) v := by
  cases v <;> simp only [toAV] <;> first | exact cellAV_rel M r _ | exact ⟨_, rfl, map_cellAV_rel M r _⟩

theorem ev_rel {N : Nat} {X : Ctx} {σ : AS} {M : Mem} {a : Act} (R : Rel N X σ M a) (x : Operand) : VRel M true (σ.ev x) (a.eval x) := by
  cases x with
  | tmp t => exact R.tm t
  | const v => exact toAV_rel M true v
  | func f => exact ⟨[], [], rfl, rfl, rfl⟩
  | global g => exact trivial

theorem tyI_spec {P : Program} {t : TypeId} {i : TyI} (h : tyI P t = some i) :
    ∃ inf d z, P.info? t = some inf ∧ P.underlying t = some d ∧ inf.zero = some z ∧ i.size = inf.size ∧ i.bytes = inf.bytes ∧ i.agg = isAggD d ∧ i.zero = z.cells.toList.map cellAV ∧ i.td = TD.of P d := by
  unfold tyI at h
  split at h
  · rename_i inf d h1 h2
    split at h
    · rename_i z hz
      cases h
      exact ⟨inf, d, z, h1, h2, hz, rfl, rfl, rfl, rfl, rfl⟩
    · cases h
  · cases h

section runs
variable {P : Program} {t : TypeId} {i : TyI} (w : World)

theorem run_isAgg (h : tyI P t = some i) : (isAgg t).run P w = .ok i.agg w := by
  obtain ⟨inf, d, z, h1, h2, h3, h4, h5, h6, h7, h8⟩ := tyI_spec h
  rw [h6]
  cases d <;> simp [isAgg, underlying, h2, isAggD]
theorem run_sizeOf (h : tyI P t = some i) : (sizeOf t).run P w = .ok i.size w := by
  obtain ⟨inf, d, z, h1, h2, h3, h4, h5, h6, h7, h8⟩ := tyI_spec h
  simp [sizeOf, typeInfo, h1, h4]
theorem run_zeroValue (h : tyI P t = some i) : ∃ z, (zeroValue t).run P w = .ok z w ∧ i.zero = z.cells.toList.map cellAV := by
  obtain ⟨inf, d, z, h1, h2, h3, h4, h5, h6, h7, h8⟩ := tyI_spec h
  exact ⟨z, by simp [zeroValue, typeInfo, h1, h3], h7⟩
theorem run_underlyingI (h : tyI P t = some i) : ∃ d, (underlying t).run P w = .ok d w ∧ P.underlying t = some d ∧ i.td = TD.of P d := by
  obtain ⟨inf, d, z, h1, h2, h3, h4, h5, h6, h7, h8⟩ := tyI_spec h
  exact ⟨d, by simp [underlying, h2], h2, h8⟩
end runs

/-- One cell's value. -/
def leafOk : AV → Bool
  | .agg _ | .tup _ | .dead => false
  | .exact v => v.oneCell'
  | _ => true
theorem leaf_oneCell {M : Mem} {r : Bool} {a : AV} {v : Value} (h : VRel M r a v) (hl : leafOk a = true) : v.oneCell' = true := by
  cases a <;> simp only [leafOk, Bool.false_eq_true] at hl <;> simp only [VRel] at h
  case exact => subst h; exact hl
  case fn => obtain ⟨_, _, rfl, _⟩ := h; rfl
  case ptr => exact h.2.1
  case sl => exact h.2.1
  case ro => obtain ⟨_, _, rfl, _⟩ := h; rfl
  case rp => obtain ⟨_, _, _, _, _, rfl, _⟩ := h; rfl
  all_goals subst h; rfl
theorem leaf_cells {M : Mem} {r : Bool} {a : AV} {v : Value} (h : VRel M r a v) (hl : leafOk a = true) : v.cells = #[v] := by
  have := leaf_oneCell h hl
  cases v <;> first | rfl | simp [Value.oneCell'] at this
theorem leaves_oneCell {M : Mem} {r : Bool} : ∀ {cs : List AV} {l : List Value}, VRels M r cs l → cs.all leafOk = true → ∀ v ∈ l, v.oneCell' = true
  | [], _, h, _, v, hv => by cases h; cases hv
  | c :: cs, _, ⟨u, us, e, H, K⟩, hl, v, hv => by
    subst e
    simp only [List.all_cons, Bool.and_eq_true] at hl
    cases hv with
    | head => exact leaf_oneCell H hl.1
    | tail _ hv => exact leaves_oneCell K hl.2 v hv

/-! ### Loads -/
def loadA (i : TyI) (h : HP) : AV → Option AV
  | .ptr id off => match h.bk id with
    | some k => if i.agg then (if off + i.size ≤ k.cs.length then some (.agg ((k.cs.drop off).take i.size)) else none) else k.cs[off]?
    | none => none
  | .rp cs => if i.agg then (if i.size ≤ cs.length then some (.agg (cs.take i.size)) else none) else cs[0]?
  | _ => none

theorem run_loadCells_at (P : Program) (w : World) (b off n : Nat) (C : Array Value) (e : TypeId) (fz : Nat × Nat) (hb : w.heap[b]? = some (.cells C e fz)) (hn : off + n ≤ C.size) :
    (loadCells ⟨b, off, none⟩ n).run P w = .ok ((C.toList.drop off).take n).toArray w := by
  have hl : ((C.toList.drop off).take n).length = n := by simp; omega
  have := run_loadCells_list (P := P) w ⟨b, off, none⟩ ((C.toList.drop off).take n) (fun j v hj => by
    rw [addr_add]
    rw [List.getElem?_take] at hj
    split at hj
    · rw [List.getElem?_drop] at hj
      simp [World.cell?, hb, ← hj]
    · cases hj)
  rwa [hl] at this

theorem loadVar_at {P : Program} {t : TypeId} {i : TyI} {M : Mem} {b off : Nat} {C : Array Value} {e : TypeId} {fz : Nat × Nat} {cs : List AV} (hi : tyI P t = some i)
    (hb : M.w.heap[b]? = some (.cells C e fz)) (hp : VPreR M cs (C.toList.drop off)) :
    (i.agg = true → i.size ≤ cs.length → ∃ v, (loadVar t ⟨b, off, none⟩).run P M.w = .ok v M.w ∧ VRel M true (.agg (cs.take i.size)) v) ∧
    (i.agg = false → ∀ c, cs[0]? = some c → ∃ v, (loadVar t ⟨b, off, none⟩).run P M.w = .ok v M.w ∧ VRel M true c v) := by
  have hlen := hp.length
  constructor
  · intro ha hs
    simp only [List.length_drop, Array.length_toList] at hlen
    by_cases h0 : i.size = 0
    · refine ⟨.agg #[], ?_, ⟨[], rfl, by simp [h0, VRels]⟩⟩
      simp only [loadVar, Sem.run_bind, run_isAgg _ hi, ha, run_sizeOf _ hi, Result.andThen_ok, if_true, h0]
      simp [loadCells, loadCellsFrom]
    · have hr := run_loadCells_at P M.w b off i.size C e fz hb (by omega)
      refine ⟨.agg ⟨(C.toList.drop off).take i.size⟩, ?_, ⟨_, rfl, ?_⟩⟩
      · simp only [loadVar, Sem.run_bind, run_isAgg _ hi, ha, run_sizeOf _ hi, Result.andThen_ok, if_true, hr]
        simp
      · have := (hp.take i.size).toRels
        rwa [List.length_take, Nat.min_eq_left hs] at this
  · intro ha c hc
    obtain ⟨v, hv, hr⟩ := hp.get 0 c hc
    refine ⟨v, ?_, hr⟩
    rw [List.getElem?_drop] at hv
    simp only [loadVar, Sem.run_bind, run_isAgg _ hi, ha, Result.andThen_ok, Bool.false_eq_true, if_false, run_load]
    have : M.w.cell? ⟨b, off, none⟩ = some v := by simp [World.cell?, hb]; simpa using hv
    simp [this]

theorem loadA_sound {P : Program} {t : TypeId} {i : TyI} {X : Ctx} {h : HP} {M : Mem} (H : HRel X h M) (hi : tyI P t = some i) {p c : AV} {pv : Value} (hp : VRel M true p pv)
    (hl : loadA i h p = some c) : ∃ v, (Instr.loadAt t pv).run P M.w = .ok v M.w ∧ VRel M true c v := by
  unfold loadA at hl
  split at hl
  · rename_i id off
    split at hl
    · rename_i k hk
      have hD : M.D id := (H.dom id).2 (by simp [hk])
      obtain ⟨_, _, _, hv⟩ := hp
      obtain rfl := hv hD
      obtain ⟨C, e, hb, hpre, _⟩ := H.bk id k hk
      have L := loadVar_at (off := off) hi hb (hpre.drop off)
      simp only [Instr.loadAt, Instr.sureAddr, pure_bind]
      split at hl
      · rename_i ha
        split at hl
        · rename_i hle
          cases hl
          exact L.1 ha (by simp; omega)
        · cases hl
      · rename_i ha
        exact L.2 (by simpa using ha) c (by rw [List.getElem?_drop]; simpa using hl)
    · cases hl
  · rename_i cs
    obtain ⟨b, off, C, e, fz, rfl, hb, hfree, hpre⟩ := hp
    have L := loadVar_at (off := off) hi hb (VPre.flag _ _ hpre)
    simp only [Instr.loadAt, Instr.sureAddr, pure_bind]
    split at hl
    · rename_i ha
      split at hl
      · rename_i hle
        cases hl
        exact L.1 ha hle
      · cases hl
    · rename_i ha
      exact L.2 (by simpa using ha) c hl
  · cases hl

/-! ### Stores -/
def storeA (i : TyI) (h : HP) (p v : AV) : Option HP :=
  match p with
  | .ptr id off => match h.bk id with
    | some k => match v with
      | .agg vs => if i.size = vs.length ∧ off + vs.length ≤ k.cs.length ∧ vs.all leafOk = true then some { h with bk := upd h.bk id (some ⟨k.cs.take off ++ vs ++ k.cs.drop (off + vs.length), k.fix⟩) } else none
      | v => if leafOk v = true ∧ i.size = 1 ∧ off < k.cs.length then some { h with bk := upd h.bk id (some ⟨k.cs.set off v, k.fix⟩) } else none
    | none => none
  | _ => none

theorem seg_rel {M : Mem} {cs vs : List AV} {l us : List Value} (off : Nat) (hp : VPreR M cs l) (hv : VRels M true vs us) (hle : off + vs.length ≤ cs.length) :
    VPreR M (cs.take off ++ vs ++ cs.drop (off + vs.length)) (l.take off ++ us ++ l.drop (off + us.length)) := by
  have hl := hp.length
  have h1 : VRels M true (cs.take off) (l.take off) := by
    have := (hp.take off).toRels
    rwa [List.length_take, Nat.min_eq_left (by omega)] at this
  rw [hv.length]
  exact VPreR.append (VRels.append h1 hv) (hp.drop _)

theorem store_run {P : Program} {X : Ctx} {h : HP} {M : Mem} (H : HRel X h M) {t : TypeId} {i : TyI} (hi : tyI P t = some i) {id off : Nat} {k : Blk} (hk : h.bk id = some k)
    {vs : List AV} {us : List Value} {u : Value} (hu : u.cells.toList = us) (hv : VRels M true vs us) (h1 : ∀ x ∈ us, x.oneCell' = true) (hs : i.size = vs.length) (hle : off + vs.length ≤ k.cs.length) :
    ∃ M', (Instr.storeAt t (.pointer (some ⟨M.φ id, off, none⟩)) u).run P M.w = .ok () M'.w ∧ M.le M' ∧ M'.O = M.O ∧
      HRel X { h with bk := upd h.bk id (some ⟨k.cs.take off ++ vs ++ k.cs.drop (off + vs.length), k.fix⟩) } M' := by
  obtain ⟨C, e, hb, hpre, hf⟩ := H.bk id k hk
  have hlen := hpre.length
  have hvl := hv.length
  simp only [Array.length_toList] at hlen
  have hsz : (C.toList.take off ++ us ++ C.toList.drop (off + us.length)).toArray.size = C.size := by simp; omega
  have hst := run_storeCells_at P (M.φ id) off e us 0 C M.w hb (by omega) h1
  have R := H.setRow hk hb (C' := (C.toList.take off ++ us ++ C.toList.drop (off + us.length)).toArray) hsz
    (k' := ⟨k.cs.take off ++ vs ++ k.cs.drop (off + vs.length), k.fix⟩) (seg_rel off hpre hv hle) (fun hx => by
      have := hf hx
      rw [hsz]; simp only [List.length_append, List.length_take, List.length_drop]; omega)
  refine ⟨_, ?_, R.1, rfl, R.2⟩
  have hcs : u.cells.size = i.size := by rw [← Array.length_toList, hu, hvl, hs]
  simp only [Instr.storeAt, Instr.sureAddr, pure_bind, storeVar, Sem.run_bind, run_sizeOf _ hi, Result.andThen_ok, hcs, ne_eq, not_true_eq_false, if_false, hu, hst]
  simp

theorem storeA_sound {P : Program} {X : Ctx} {h h' : HP} {M : Mem} (H : HRel X h M) {t : TypeId} {i : TyI} (hi : tyI P t = some i) {p v : AV} {pv u : Value} (hp : VRel M true p pv) (hv : VRel M true v u)
    (hs : storeA i h p v = some h') : ∃ M', (Instr.storeAt t pv u).run P M.w = .ok () M'.w ∧ M.le M' ∧ M'.O = M.O ∧ HRel X h' M' := by
  unfold storeA at hs
  split at hs
  · rename_i id off
    split at hs
    · rename_i k hk
      have hD : M.D id := (H.dom id).2 (by simp [hk])
      obtain ⟨_, _, _, hpv⟩ := hp
      obtain rfl := hpv hD
      split at hs
      · rename_i vs
        split at hs
        · rename_i hc
          cases hs
          obtain ⟨a, rfl, hva⟩ := hv
          exact store_run H hi hk (us := a) (u := .agg ⟨a⟩) rfl hva (leaves_oneCell hva hc.2.2) hc.1 hc.2.1
        · cases hs
      · split at hs
        · rename_i hc
          cases hs
          have hcell := leaf_cells hv hc.1
          have := store_run H hi hk (off := off) (vs := [v]) (us := [u]) (u := u) (by rw [hcell]) ⟨u, [], rfl, hv, rfl⟩
            (fun x hx => by simp at hx; subst hx; exact leaf_oneCell hv hc.1) hc.2.1 (by simp; omega)
          rwa [show k.cs.take off ++ [v] ++ k.cs.drop (off + [v].length) = k.cs.set off v by
            rw [List.set_eq_take_append_cons_drop, if_pos hc.2.2]; simp] at this
        · cases hs
    · cases hs
  · cases hs
end Go.Am

/-! 'Am', part 4: new blocks, parts, places, slices. -/
namespace Go.Am

theorem elI_spec {P : Program} {t : TypeId} {s b : Nat} {a : Bool} (h : elI P t = some (s, b, a)) :
    ∃ i d, P.info? t = some i ∧ P.underlying t = some d ∧ i.size = s ∧ i.bytes = b ∧ isAggD d = a := by
  unfold elI at h
  split at h
  · rename_i i d h1 h2
    simp only [Option.some.injEq, Prod.mk.injEq] at h
    exact ⟨i, d, h1, h2, h.1, h.2.1, h.2.2⟩
  · cases h
theorem run_sizeOf_el {P : Program} {t : TypeId} {s b : Nat} {a : Bool} (h : elI P t = some (s, b, a)) (w : World) : (sizeOf t).run P w = .ok s w := by
  obtain ⟨i, d, h1, h2, h3, h4, h5⟩ := elI_spec h
  simp [sizeOf, typeInfo, h1, h3]
theorem run_isAgg_el {P : Program} {t : TypeId} {s b : Nat} {a : Bool} (h : elI P t = some (s, b, a)) (w : World) : (isAgg t).run P w = .ok a w := by
  obtain ⟨i, d, h1, h2, h3, h4, h5⟩ := elI_spec h
  rw [← h5]
  cases d <;> simp [isAgg, underlying, h2, isAggD]

theorem TD_slice {P : Program} {d : TypeDesc} {e : TypeId} {es eb : Nat} {ea : Bool} (h : TD.of P d = .slice e es ea eb) : d = .slice e ∧ elI P e = some (es, eb, ea) := by
  cases d <;> simp only [TD.of] at h <;> try (cases h; done)
  all_goals (split at h <;> cases h)
  exact ⟨rfl, by assumption⟩
theorem TD_array {P : Program} {d : TypeDesc} {n : Nat} {e : TypeId} {es : Nat} {ea : Bool} (h : TD.of P d = .array n e es ea) : d = .array n e ∧ ∃ eb, elI P e = some (es, eb, ea) := by
  cases d <;> simp only [TD.of] at h <;> try (cases h; done)
  all_goals (split at h <;> cases h)
  exact ⟨rfl, _, by assumption⟩
theorem fieldsI_spec {P : Program} : ∀ {fs : List Field} {r : List (Nat × Nat × Bool)}, fieldsI P fs = some r → ∀ (j o s : Nat) (a : Bool), r[j]? = some (o, s, a) →
    ∃ f b, fs[j]? = some f ∧ f.offset = o ∧ elI P f.type = some (s, b, a)
  | [], r, h, j, o, s, a, hj => by simp [fieldsI] at h; subst h; simp at hj
  | f :: fs, r, h, j, o, s, a, hj => by
    unfold fieldsI at h
    split at h
    · rename_i s' b' a' r' h1 h2
      cases h
      cases j with
      | zero => simp at hj; obtain ⟨rfl, rfl, rfl⟩ := hj; exact ⟨f, b', rfl, rfl, h1⟩
      | succ j => simpa using fieldsI_spec h2 j o s a (by simpa using hj)
    · cases h
theorem TD_struct {P : Program} {d : TypeDesc} {fs : List (Nat × Nat × Bool)} (h : TD.of P d = .struct fs) : ∃ F, d = .struct F ∧ fieldsI P F.toList = some fs := by
  cases d <;> simp only [TD.of] at h <;> try (cases h; done)
  all_goals (split at h <;> cases h)
  exact ⟨_, rfl, by assumption⟩
theorem TD_int {P : Program} {d : TypeDesc} {k : IntKind} (h : TD.of P d = .int k) : d = .int k := by
  cases d <;> simp only [TD.of] at h <;> try (cases h; done)
  all_goals first | (split at h <;> cases h) | (cases h; rfl)
theorem TD_bool {P : Program} {d : TypeDesc} (h : TD.of P d = .bool) : d = .bool := by
  cases d <;> simp only [TD.of] at h <;> try (cases h; done)
  all_goals first | rfl | (split at h <;> cases h)
theorem TD_str {P : Program} {d : TypeDesc} (h : TD.of P d = .str) : d = .string := by
  cases d <;> simp only [TD.of] at h <;> try (cases h; done)
  all_goals first | rfl | (split at h <;> cases h)

/-! ### New blocks -/
theorem ptr_new (M : Mem) (o : Obj) : VRel (M.add o) true (.ptr M.n 0) (.pointer (some ⟨M.w.heap.size, 0, none⟩)) :=
  ⟨rfl, rfl, Nat.lt_succ_self _, fun _ => by show _ = Value.pointer (some ⟨upd M.φ M.n M.w.heap.size M.n, 0, none⟩); rw [upd_same]⟩

theorem alloc_sound {P : Program} {X : Ctx} {h : HP} {M : Mem} (H : HRel X h M) {t : TypeId} {i : TyI} (hi : tyI P t = some i) :
    ∃ M' v, (Instr.alloc t true (.tuple #[])).run P M.w = .ok v M'.w ∧ M.le M' ∧ M'.O = M.O ∧ HRel X (h.add ⟨i.zero, true⟩) M' ∧ VRel M' true (.ptr h.nt 0) v := by
  obtain ⟨z, hz, hzz⟩ := run_zeroValue M.w hi
  refine ⟨M.add (.cells z.cells t (0, 0)), .pointer (some ⟨M.w.heap.size, 0, none⟩), ?_, H.add_le _, rfl,
    H.add (k := ⟨i.zero, true⟩) (by rw [hzz]; exact (map_cellAV_rel M true _).toPre) (fun _ => by rw [hzz]; simp), by rw [← H.n]; exact ptr_new _ _⟩
  simp [Instr.alloc, hz, newVar, newRow]
  rfl

def cellsA : AV → Option (List AV)
  | .agg cs => some cs
  | a => if leafOk a then some [a] else none
theorem cellsA_rel {M : Mem} {a : AV} {v : Value} {cs : List AV} (h : VRel M true a v) (hc : cellsA a = some cs) : VRels M true cs v.cells.toList := by
  unfold cellsA at hc
  split at hc
  · cases hc
    obtain ⟨l, rfl, hl⟩ := h
    exact hl
  · split at hc
    · rename_i hl
      cases hc
      rw [leaf_cells h hl]
      exact ⟨v, [], rfl, h, rfl⟩
    · cases hc

theorem box_sound {P : Program} {X : Ctx} {h : HP} {M : Mem} (H : HRel X h M) {t : TypeId} {a : AV} {u : Value} (ha : VRel M true a u) {cs : List AV} (hc : cellsA a = some cs) :
    ∃ M' v, (Instr.box t u).run P M.w = .ok v M'.w ∧ M.le M' ∧ M'.O = M.O ∧ HRel X (h.add ⟨cs, true⟩) M' ∧ VRel M' true (.ptr h.nt 0) v := by
  have hr := cellsA_rel ha hc
  refine ⟨M.add (.cells u.cells t (0, 0)), .pointer (some ⟨M.w.heap.size, 0, none⟩), ?_, H.add_le _, rfl,
    H.add (k := ⟨cs, true⟩) hr.toPre (fun _ => by have := hr.length; simpa using this), by rw [← H.n]; exact ptr_new _ _⟩
  simp [Instr.box, newVar, newRow]
  rfl

/-! ### Literals -/
/-- Parts laid into cells; 'pl': where part i lies, and how many cells it takes. -/
def fillA (pl : Nat → Option (Nat × Nat)) (cells : List AV) : List (Nat × AV) → Option (List AV)
  | [] => some cells
  | (i, a) :: rest => match pl i, cellsA a with
    | some (o, s), some vs => if vs.length = s ∧ o + s ≤ cells.length then fillA pl (cells.take o ++ vs ++ cells.drop (o + s)) rest else none
    | _, _ => none

theorem foldl_setSeg (vs : Array Value) (o : Nat) (cs : Array Value) (h : o + vs.size ≤ cs.size) :
    (vs.zipIdx.foldl (fun cs (x : Value × Nat) => cs.setIfInBounds (o + x.2) x.1) cs).toList = cs.toList.take o ++ vs.toList ++ cs.toList.drop (o + vs.size) := by
  obtain ⟨vs⟩ := vs
  obtain ⟨cs⟩ := cs
  simp only [List.size_toArray] at h
  have key : ∀ (vs : List Value) (j : Nat) (cs : List Value), o + j + vs.length ≤ cs.length →
      ((vs.zipIdx j).foldl (fun (cs : Array Value) (x : Value × Nat) => cs.setIfInBounds (o + x.2) x.1) cs.toArray).toList = cs.take (o + j) ++ vs ++ cs.drop (o + j + vs.length) := by
    intro vs
    induction vs with
    | nil => intro j cs _; simp
    | cons v vs ih =>
      intro j cs hle
      simp only [List.length_cons] at hle
      simp only [List.zipIdx_cons, List.foldl_cons, List.setIfInBounds_toArray]
      rw [ih (j + 1) (cs.set (o + j) v) (by simp; omega)]
      have h1 : (cs.set (o + j) v).take (o + (j + 1)) = cs.take (o + j) ++ [v] := by
        rw [show o + (j + 1) = (o + j) + 1 by omega, List.take_add_one, List.take_set_of_le (Nat.le_refl _)]
        simp [show o + j < cs.length by omega]
      have h2 : (cs.set (o + j) v).drop (o + (j + 1) + vs.length) = cs.drop (o + j + (vs.length + 1)) := by
        rw [List.drop_set_of_lt (by omega), show o + (j + 1) + vs.length = o + j + (vs.length + 1) by omega]
      rw [h1, h2]
      simp
  have := key vs 0 cs (by simpa using h)
  simpa using this

theorem fill_sound {M : Mem} {pl : Nat → Option (Nat × Nat)} : ∀ (ps : List (Nat × AV)) (qs : List (Nat × Value)) (cells : List AV) (C : Array Value) (r : List AV),
    (∀ (j i : Nat) (a : AV), ps[j]? = some (i, a) → ∃ v, qs[j]? = some (i, v) ∧ VRel M true a v) → qs.length = ps.length → VRels M true cells C.toList → fillA pl cells ps = some r →
    ∃ R, Instr.fill pl C qs = some R ∧ VRels M true r R.toList
  | [], [], cells, C, r, _, _, hc, hr => by cases hr; exact ⟨C, rfl, hc⟩
  | [], _ :: _, _, _, _, _, hl, _, _ => by simp at hl
  | _ :: _, [], _, _, _, _, hl, _, _ => by simp at hl
  | (i, a) :: ps, (i', v) :: qs, cells, C, r, hps, hl, hc, hr => by
    obtain ⟨u, hu, hrel⟩ := hps 0 i a rfl
    simp only [List.getElem?_cons_zero, Option.some.injEq, Prod.mk.injEq] at hu
    obtain ⟨h1, h2⟩ := hu
    subst h1 h2
    unfold fillA at hr
    split at hr
    · rename_i o s vs hpl hvs
      split at hr
      · rename_i hle
        have hv := cellsA_rel hrel hvs
        have hvl := hv.length
        have hcl := hc.length
        simp only [Array.length_toList] at hvl hcl
        have hseg := foldl_setSeg v.cells o C (by omega)
        have hcond : ¬ (v.cells.size ≠ s ∨ o + v.cells.size > C.size) := by omega
        obtain ⟨R, hR, hRR⟩ := fill_sound ps qs (cells.take o ++ vs ++ cells.drop (o + s)) (v.cells.zipIdx.foldl (fun cs (x : Value × Nat) => cs.setIfInBounds (o + x.2) x.1) C) r
          (fun j i a h => by simpa using hps (j + 1) i a (by simpa using h)) (by simpa using hl)
          (by rw [hseg, show v.cells.size = s by omega]; exact VRels.append (VRels.append (hc.take o) hv) (hc.drop _)) hr
        refine ⟨R, ?_, hRR⟩
        unfold Instr.fill
        rw [hpl]
        simp only [Bool.or_eq_true, decide_eq_true_eq]
        rw [if_neg hcond]
        exact hR
      · cases hr
    · cases hr
end Go.Am

/-! 'Am', part 5: literals, fields, elements, slices. -/
namespace Go.Am
variable {P : Program} {X : Ctx} {h : HP} {M : Mem}

theorem shape_push (w : World) (C : Array Value) (e : TypeId) (f : Nat × Nat) : World.shape? { w with heap := w.heap.push (.cells C e f) } w.heap.size = some (e, C.size) := by
  unfold World.shape?
  rw [show ({ w with heap := w.heap.push (.cells C e f) } : World).heap[w.heap.size]? = some (.cells C e f) from by simp only [Array.getElem?_push_size]]
theorem slice_new (M : Mem) (C : Array Value) (e : TypeId) (es n cap : Nat) (hn : n ≤ cap) (hc : cap * es ≤ C.size) :
    VRel (M.add (.cells C e (0, 0))) true (.sl M.n 0 es n) (.slice (some ⟨M.w.heap.size, 0, none⟩) n cap) :=
  ⟨rfl, rfl, Nat.lt_succ_self _, fun _ => ⟨cap, e, C.size, by show _ = Value.slice (some ⟨upd M.φ M.n M.w.heap.size M.n, 0, none⟩) n cap; rw [upd_same], hn,
    by show World.shape? _ (upd M.φ M.n M.w.heap.size M.n) = _; rw [upd_same]; exact shape_push _ _ _ _, by omega⟩⟩

/-- Where part j of a literal lies. -/
def placeA : TD → Nat → Option (Nat × Nat)
  | .struct fs, j => (fs[j]?).map fun f => (f.1, f.2.1)
  | .array _ _ es _, j => some (j * es, es)
  | _, _ => none
def evParts (ρ : Operand → AV) (ps : Array (Nat × Operand)) : List (Nat × AV) := ps.toList.map fun p => (p.1, ρ p.2)
def buildA (i : TyI) (ps : List (Nat × AV)) : Option AV :=
  match i.td with
  | .struct _ | .array .. => (fillA (placeA i.td) i.zero ps).map .agg
  | _ => none

theorem parts_rel {ρa : Operand → AV} {ρc : Operand → Value} {ps : Array (Nat × Operand)} (hρ : ∀ x ∈ ps.toList.map (·.2), VRel M true (ρa x) (ρc x)) :
    (∀ (j i : Nat) (a : AV), (evParts ρa ps)[j]? = some (i, a) → ∃ v, ((ps.map fun (i, x) => (i, ρc x)).toList)[j]? = some (i, v) ∧ VRel M true a v) ∧
    ((ps.map fun (i, x) => (i, ρc x)).toList).length = (evParts ρa ps).length := by
  obtain ⟨ps⟩ := ps
  refine ⟨fun j i a h => ?_, by simp [evParts]⟩
  simp only [evParts, List.getElem?_map] at h
  cases hj : ps[j]? with
  | none => simp [hj] at h
  | some p =>
    simp only [hj, Option.map_some, Option.some.injEq, Prod.mk.injEq] at h
    obtain ⟨rfl, rfl⟩ := h
    exact ⟨ρc p.2, by simp [hj], hρ _ (List.mem_map.2 ⟨p, List.mem_of_getElem? hj, rfl⟩)⟩

theorem mapM_places (P : Program) (w : World) : ∀ {fs : List Field} {r : List (Nat × Nat × Bool)}, fieldsI P fs = some r →
    (fs.mapM (m := Sem) fun f => do pure (f.offset, ← sizeOf f.type)).run P w = .ok (r.map fun f => (f.1, f.2.1)) w
  | [], r, h => by simp [fieldsI] at h; subst h; rfl
  | f :: fs, r, h => by
    unfold fieldsI at h
    split at h
    · rename_i s b a r' h1 h2
      cases h
      rw [List.mapM_cons]
      simp only [Sem.run_bind, run_sizeOf_el h1, Result.andThen_ok, Sem.run_pure, mapM_places P w h2]
      rfl
    · cases h

theorem build_sound {t : TypeId} {i : TyI} (hi : tyI P t = some i) {ρa : Operand → AV} {ρc : Operand → Value} {ps : Array (Nat × Operand)}
    (hρ : ∀ x ∈ ps.toList.map (·.2), VRel M true (ρa x) (ρc x)) {c : AV} (hb : buildA i (evParts ρa ps) = some c) :
    ∃ v, (Instr.build t (ps.map fun (i, x) => (i, ρc x))).run P M.w = .ok v M.w ∧ VRel M true c v := by
  obtain ⟨z, hz, hzz⟩ := run_zeroValue M.w hi
  obtain ⟨d, hd, hd2, hd3⟩ := run_underlyingI M.w hi
  obtain ⟨p1, p2⟩ := parts_rel hρ
  have hzr : VRels M true i.zero z.cells.toList := by rw [hzz]; exact map_cellAV_rel M true _
  unfold buildA at hb
  split at hb
  · rename_i fs htd
    obtain ⟨F, rfl, hF⟩ := TD_struct (hd3.symm.trans htd)
    cases hf : fillA (placeA i.td) i.zero (evParts ρa ps) with
    | none => simp [hf] at hb
    | some r =>
      simp only [hf, Option.map_some, Option.some.injEq] at hb
      subst hb
      obtain ⟨R, hR, hRR⟩ := fill_sound _ _ _ _ _ p1 p2 hzr hf
      refine ⟨.agg R, ?_, ⟨R.toList, rfl, hRR⟩⟩
      have hm := mapM_places P M.w hF
      have hpl : (fun j => ((fs.map fun f => (f.1, f.2.1)).toArray)[j]?) = placeA i.td := by
        funext j; rw [htd]; simp [placeA]
      have hm2 : (F.mapM (m := Sem) fun f => do pure (f.offset, ← sizeOf f.type)).run P M.w = .ok ((fs.map fun f => (f.1, f.2.1)).toArray) M.w := by
        rw [Array.mapM_eq_mapM_toList]
        simp only [Sem.run_map, hm]
        rfl
      simp only [Instr.build, Sem.run_bind, hz, Result.andThen_ok, hd, hm2]
      rw [hpl, hR]
      rfl
  · rename_i n e es ea htd
    obtain ⟨rfl, eb, he⟩ := TD_array (hd3.symm.trans htd)
    cases hf : fillA (placeA i.td) i.zero (evParts ρa ps) with
    | none => simp [hf] at hb
    | some r =>
      simp only [hf, Option.map_some, Option.some.injEq] at hb
      subst hb
      obtain ⟨R, hR, hRR⟩ := fill_sound _ _ _ _ _ p1 p2 hzr hf
      refine ⟨.agg R, ?_, ⟨R.toList, rfl, hRR⟩⟩
      have hpl : (fun j => some (j * es, es)) = placeA i.td := by funext j; rw [htd]; rfl
      simp only [Instr.build, Sem.run_bind, hz, Result.andThen_ok, hd, run_sizeOf_el he]
      rw [hpl, hR]
      rfl
  · cases hb

/-- The zero cells of n elements. -/
def zerosA (z : List AV) (n : Nat) : List AV := (List.replicate n z).flatten

def buildSliceA (P : Program) (i : TyI) (h : HP) (len : Nat) (ps : List (Nat × AV)) : Option (AV × HP) :=
  match i.td with
  | .slice e es _ _ => match tyI P e with
    | some ie => if ie.size = es ∧ ie.zero.length = es ∧ len * es ≤ 2 ^ 24 then
        (fillA (fun j => some (j * es, es)) (zerosA ie.zero len) ps).map fun cs => (.sl h.nt 0 es len, h.add ⟨cs, true⟩)
      else none
    | none => none
  | _ => none

theorem zeros_list (z : Array Value) (n s : Nat) (hs : z.size = s) (h0 : n * s ≠ 0) :
    ((Array.range (n * s)).map (fun j => z[j % z.size]!)).toList = (List.replicate n z.toList).flatten := by
  subst hs
  have hpos : 0 < z.size := by
    rcases Nat.eq_zero_or_pos z.size with h | h
    · simp [h] at h0
    · exact h
  apply List.ext_getElem?
  intro j
  by_cases hj : j < n * z.size
  · have hmod : j % z.size < z.size := Nat.mod_lt _ hpos
    have hl : ((List.replicate n z.toList).flatten)[j]? = z.toList[j % z.size]? := by
      clear h0
      induction n generalizing j with
      | zero => simp at hj
      | succ n ih =>
        rw [List.replicate_succ, List.flatten_cons]
        by_cases h1 : j < z.size
        · rw [List.getElem?_append_left (by simpa using h1), Nat.mod_eq_of_lt h1]
        · rw [List.getElem?_append_right (by simp; omega)]
          have : j - z.toList.length < n * z.size := by simp; rw [Nat.succ_mul] at hj; omega
          rw [ih _ this (Nat.mod_lt _ hpos)]
          congr 1
          simp only [Array.length_toList]
          exact (Nat.mod_eq_sub_mod (by omega)).symm
    rw [hl]
    simp [hj, hmod]
  · rw [List.getElem?_eq_none (by simp; omega), List.getElem?_eq_none]
    simp; omega

theorem zerosA_length (z : List AV) (n : Nat) : (zerosA z n).length = n * z.length := by
  unfold zerosA
  induction n with
  | zero => simp
  | succ n ih => rw [List.replicate_succ, List.flatten_cons, List.length_append, ih, Nat.succ_mul, Nat.add_comm]
theorem zeros_rel {M : Mem} {r : Bool} {z : Array Value} {zs : List AV} (hz : VRels M r zs z.toList) : ∀ n, VRels M r (zerosA zs n) ((List.replicate n z.toList).flatten)
  | 0 => rfl
  | n + 1 => by
    unfold zerosA
    rw [List.replicate_succ, List.replicate_succ, List.flatten_cons, List.flatten_cons]
    exact VRels.append hz (zeros_rel hz n)

theorem fillA_length {pl : Nat → Option (Nat × Nat)} : ∀ (ps : List (Nat × AV)) (cs r : List AV), fillA pl cs ps = some r → r.length = cs.length
  | [], cs, r, h => by cases h; rfl
  | (i, a) :: ps, cs, r, h => by
    unfold fillA at h
    split at h
    · rename_i o s vs h1 h2
      split at h
      · rename_i hle
        have := fillA_length ps _ r h
        rw [this]
        simp only [List.length_append, List.length_take, List.length_drop]
        omega
      · cases h
    · cases h

theorem buildSlice_sound (H : HRel X h M) {t : TypeId} {i : TyI} (hi : tyI P t = some i) {len : Nat} {ρa : Operand → AV} {ρc : Operand → Value} {ps : Array (Nat × Operand)}
    (hρ : ∀ x ∈ ps.toList.map (·.2), VRel M true (ρa x) (ρc x)) {c : AV} {h' : HP} (hb : buildSliceA P i h len (evParts ρa ps) = some (c, h')) :
    ∃ M' v, (Instr.buildSlice t len (ps.map fun (i, x) => (i, ρc x))).run P M.w = .ok v M'.w ∧ M.le M' ∧ M'.O = M.O ∧ HRel X h' M' ∧ VRel M' true c v := by
  obtain ⟨d, hd, hd2, hd3⟩ := run_underlyingI M.w hi
  obtain ⟨p1, p2⟩ := parts_rel hρ
  unfold buildSliceA at hb
  split at hb
  · rename_i e es ea eb htd
    obtain ⟨rfl, he⟩ := TD_slice (hd3.symm.trans htd)
    split at hb
    · rename_i ie hie
      split at hb
      · rename_i hc
        obtain ⟨hs, hzl, h24⟩ := hc
        cases hf : fillA (fun j => some (j * es, es)) (zerosA ie.zero len) (evParts ρa ps) with
        | none => simp [hf] at hb
        | some r =>
          simp only [hf, Option.map_some, Option.some.injEq, Prod.mk.injEq] at hb
          obtain ⟨rfl, rfl⟩ := hb
          obtain ⟨z, hz, hzz⟩ := run_zeroValue M.w hie
          have hzr : VRels M true ie.zero z.cells.toList := by rw [hzz]; exact map_cellAV_rel M true _
          have hzs : z.cells.size = es := by have := hzr.length; simp at this; omega
          have hzz2 : ∃ Z : Array Value, (∀ K : Array Value → Sem Value, (if len * es = 0 then ((pure #[] : Sem (Array Value)) >>= K) else (zeroValue e >>= fun a => (pure a.cells : Sem (Array Value)) >>= K)).run P M.w = (K Z).run P M.w) ∧
              ((Array.range (len * es)).map (fun j => Z[j % Z.size]!)).toList = (List.replicate len z.cells.toList).flatten := by
            by_cases h0 : len * es = 0
            · refine ⟨#[], fun K => by simp [h0], ?_⟩
              rw [h0]
              rcases Nat.mul_eq_zero.1 h0 with h1 | h1
              · simp [h1]
              · have : z.cells.toList = [] := List.eq_nil_of_length_eq_zero (by rw [Array.length_toList]; omega)
                simp [this]
            · exact ⟨z.cells, fun K => by simp [h0, hz], zeros_list z.cells len es hzs h0⟩
          obtain ⟨Z, hZ, hZl⟩ := hzz2
          obtain ⟨R, hR, hRR⟩ := fill_sound _ _ _ ((Array.range (len * es)).map (fun j => Z[j % Z.size]!)) _ p1 p2 (by rw [hZl]; exact zeros_rel hzr len) hf
          have hrl := hRR.length
          have hrl2 := fillA_length _ _ _ hf
          have hzl3 : (zerosA ie.zero len).length = len * es := by
            rw [zerosA_length, hzl]
          refine ⟨M.add (.cells R e (0, 0)), .slice (some ⟨M.w.heap.size, 0, none⟩) len len, ?_, H.add_le _, rfl, H.add (k := ⟨r, true⟩) hRR.toPre (fun _ => by simpa using hrl), ?_⟩
          · have h24' : ¬ (len * es > 2 ^ 24) := by omega
            unfold Instr.buildSlice
            rw [Sem.run_bind, hd, Result.andThen_ok]
            dsimp only
            rw [Sem.run_bind, run_sizeOf_el he, Result.andThen_ok, if_neg h24']
            refine (hZ fun zero => match Instr.fill (fun i => some (i * es, es)) ((Array.range (len * es)).map (zero[· % zero.size]!)) (ps.map fun (i, x) => (i, ρc x)).toList with
                  | some cells => do pure (.slice (some (← newRow e cells)) len len)
                  | _ => stuck "buildSlice: a part of the wrong size").trans ?_
            rw [hR]
            rfl
          · rw [← H.n]
            refine slice_new M R e es len len (Nat.le_refl _) ?_
            simp only [Array.length_toList] at hrl
            omega
      · cases hb
    · cases hb
  · cases hb
end Go.Am

/-! 'Am', part 6: fields, elements, slice expressions, make, conversions. -/
namespace Go.Am
variable {P : Program} {X : Ctx} {h : HP} {M : Mem}

/-- A part of an aggregate. -/
def partA (o s : Nat) (a : Bool) (cs : List AV) : Option AV :=
  if a then (if o + s ≤ cs.length then some (.agg ((cs.drop o).take s)) else none) else cs[o]?

theorem part_sound {e : TypeId} {s b : Nat} {a : Bool} (he : elI P e = some (s, b, a)) {cs : List AV} {l : List Value} (hr : VRels M true cs l) {o : Nat} {c : AV} (hc : partA o s a cs = some c) :
    ∃ v, (part e ⟨l⟩ o).run P M.w = .ok v M.w ∧ VRel M true c v := by
  unfold partA at hc
  have hl := hr.length
  split at hc
  · rename_i ha
    split at hc
    · rename_i hle
      cases hc
      refine ⟨.agg ⟨(l.drop o).take s⟩, ?_, ⟨_, rfl, (hr.drop o).take s⟩⟩
      have : (⟨l⟩ : Array Value).extract o (o + s) = ⟨(l.drop o).take s⟩ := by
        apply Array.ext'
        simp [List.drop_take]
      simp [part, run_isAgg_el he, ha, run_sizeOf_el he, this]
    · cases hc
  · rename_i ha
    obtain ⟨v, hv, hrel⟩ := hr.get o c hc
    refine ⟨v, ?_, hrel⟩
    have hv' : (⟨l⟩ : Array Value)[o]? = some v := by simpa using hv
    simp only [part, Sem.run_bind, run_isAgg_el he, Result.andThen_ok, ha, Bool.false_eq_true, if_false]
    rw [hv']
    rfl

def fieldAddrA (i : TyI) (h : HP) (f : Nat) (p : AV) : Option AV :=
  match i.td with
  | .struct fs => match fs[f]?, p with
    | some (o, s, _), .ptr id off => if s ≠ 0 ∧ (h.bk id).isSome = true then some (.ptr id (off + o)) else none
    | some (o, s, _), .rp cs => if s ≠ 0 then some (.rp (cs.drop o)) else none
    | _, _ => none
  | _ => none

theorem fieldAddr_sound (H : HRel X h M) {t : TypeId} {i : TyI} (hi : tyI P t = some i) {f : Nat} {p c : AV} {pv : Value} (hp : VRel M true p pv) (hc : fieldAddrA i h f p = some c) :
    ∃ v, (Instr.fieldAt t pv f).run P M.w = .ok v M.w ∧ VRel M true c v := by
  obtain ⟨d, hd, hd2, hd3⟩ := run_underlyingI M.w hi
  unfold fieldAddrA at hc
  split at hc
  · rename_i fs htd
    obtain ⟨F, rfl, hF⟩ := TD_struct (hd3.symm.trans htd)
    split at hc
    · rename_i o s a id off hf
      obtain ⟨fd, b, h1, h2, h3⟩ := fieldsI_spec hF f o s a hf
      have h1' : F[f]? = some fd := by simpa using h1
      split at hc
      · rename_i hs
        cases hc
        obtain ⟨h4, h5, h6, h7⟩ := hp
        have hD : M.D id := (H.dom id).2 hs.2
        obtain rfl := h7 hD
        refine ⟨.pointer (some ⟨M.φ id, off + o, none⟩), ?_, ⟨rfl, rfl, h6, fun _ => rfl⟩⟩
        simp only [Instr.fieldAt, Sem.run_bind, hd, Result.andThen_ok, h1', Instr.sureAddr, Sem.run_pure, fieldPlace, run_sizeOf_el h3, if_neg hs.1, h2, addr_add]
      · cases hc
    · rename_i o s a cs hf
      obtain ⟨fd, b, h1, h2, h3⟩ := fieldsI_spec hF f o s a hf
      have h1' : F[f]? = some fd := by simpa using h1
      split at hc
      · rename_i hs
        cases hc
        obtain ⟨b', off, C, e, fz, rfl, hb, hfree, hpre⟩ := hp
        refine ⟨.pointer (some ⟨b', off + o, none⟩), ?_, ⟨b', off + o, C, e, fz, rfl, hb, hfree, by have := hpre.drop o; rwa [List.drop_drop] at this⟩⟩
        simp only [Instr.fieldAt, Sem.run_bind, hd, Result.andThen_ok, h1', Instr.sureAddr, Sem.run_pure, fieldPlace, run_sizeOf_el h3, if_neg hs, h2, addr_add]
      · cases hc
    · cases hc
  · cases hc

def fieldA (i : TyI) (f : Nat) (x : AV) : Option AV :=
  match i.td, x with
  | .struct fs, .agg cs => match fs[f]? with
    | some (o, s, a) => partA o s a cs
    | none => none
  | _, _ => none

theorem field_sound {t : TypeId} {i : TyI} (hi : tyI P t = some i) {f : Nat} {x c : AV} {xv : Value} (hx : VRel M true x xv) (hc : fieldA i f x = some c) :
    ∃ v, (Instr.field t xv f).run P M.w = .ok v M.w ∧ VRel M true c v := by
  obtain ⟨d, hd, hd2, hd3⟩ := run_underlyingI M.w hi
  unfold fieldA at hc
  split at hc
  · rename_i fs cs htd
    obtain ⟨F, rfl, hF⟩ := TD_struct (hd3.symm.trans htd)
    split at hc
    · rename_i o s a hf
      obtain ⟨fd, b, h1, h2, h3⟩ := fieldsI_spec hF f o s a hf
      have h1' : F[f]? = some fd := by simpa using h1
      obtain ⟨l, rfl, hl⟩ := hx
      obtain ⟨v, hv, hr⟩ := part_sound h3 hl hc
      refine ⟨v, ?_, hr⟩
      simp only [Instr.field, Sem.run_bind, hd, Result.andThen_ok, h1', asAgg, Sem.run_pure, h2, hv]
    · cases hc
  · cases hc

/-- An index. -/
def idx (a : AV) (n : Nat) : Option Nat :=
  match a with
  | .int _ i => if 0 ≤ i ∧ i < n then some i.toNat else none
  | _ => none
theorem idx_spec {M : Mem} {r : Bool} {a : AV} {n j : Nat} {v : Value} (hv : VRel M r a v) (h : idx a n = some j) : ∃ k i, v = .int k i ∧ 0 ≤ i ∧ i < n ∧ i.toNat = j := by
  unfold idx at h
  split at h
  · rename_i k i
    split at h
    · rename_i hc
      cases h
      exact ⟨k, i, hv, hc.1, hc.2, rfl⟩
    · cases h
  · cases h

def indexAddrA (i : TyI) (h : HP) (x ix : AV) : Option AV :=
  match i.td, x with
  | .array n _ es _, .ptr id off => if (h.bk id).isSome = true then (idx ix n).map fun j => .ptr id (off + j * es) else none
  | .array n _ es _, .rp cs => (idx ix n).map fun j => .rp (cs.drop (j * es))
  | .slice _ _ _ _, .sl id off es n => match i.td with
    | .slice _ es' _ _ => if es = es' ∧ (h.bk id).isSome = true then (idx ix n).map fun j => .ptr id (off + j * es) else none
    | _ => none
  | .slice _ es _ _, .ro n cs => if cs = [] then none else (idx ix n).map fun j => .rp (cs.drop (j * es))
  | _, _ => none

theorem indexAddr_sound (H : HRel X h M) {t : TypeId} {i : TyI} (hi : tyI P t = some i) {x ix c : AV} {xv iv : Value} (hx : VRel M true x xv) (hix : VRel M true ix iv)
    (hc : indexAddrA i h x ix = some c) : ∃ v, (Instr.indexAt t xv iv).run P M.w = .ok v M.w ∧ VRel M true c v := by
  obtain ⟨d, hd, hd2, hd3⟩ := run_underlyingI M.w hi
  unfold indexAddrA at hc
  split at hc
  · rename_i n e es ea id off htd
    obtain ⟨rfl, eb, he⟩ := TD_array (hd3.symm.trans htd)
    split at hc
    · rename_i hs
      cases hj : idx ix n with
      | none => simp [hj] at hc
      | some j =>
        simp only [hj, Option.map_some, Option.some.injEq] at hc
        subst hc
        obtain ⟨k, q, rfl, h0, hn, hq⟩ := idx_spec hix hj
        obtain ⟨h4, h5, h6, h7⟩ := hx
        obtain rfl := h7 ((H.dom id).2 hs)
        refine ⟨.pointer (some ⟨M.φ id, off + j * es, none⟩), ?_, ⟨rfl, rfl, h6, fun _ => rfl⟩⟩
        simp [Instr.indexAt, asIntOf, hd, Instr.sureAddr, h0, hn, run_sizeOf_el he, hq, addr_add]
    · cases hc
  · rename_i n e es ea cs htd
    obtain ⟨rfl, eb, he⟩ := TD_array (hd3.symm.trans htd)
    cases hj : idx ix n with
    | none => simp [hj] at hc
    | some j =>
      simp only [hj, Option.map_some, Option.some.injEq] at hc
      subst hc
      obtain ⟨k, q, rfl, h0, hn, hq⟩ := idx_spec hix hj
      obtain ⟨b', off, C, e', fz, rfl, hb, hfree, hpre⟩ := hx
      refine ⟨.pointer (some ⟨b', off + j * es, none⟩), ?_, ⟨b', off + j * es, C, e', fz, rfl, hb, hfree, by have := hpre.drop (j * es); rwa [List.drop_drop] at this⟩⟩
      simp [Instr.indexAt, asIntOf, hd, Instr.sureAddr, h0, hn, run_sizeOf_el he, hq, addr_add]
  · rename_i e0 es0 ea0 eb0 id off es n htd
    obtain ⟨rfl, he⟩ := TD_slice (hd3.symm.trans htd)
    rw [htd] at hc
    simp only at hc
    split at hc
    · rename_i hs
      obtain ⟨rfl, hs⟩ := hs
      cases hj : idx ix n with
      | none => simp [hj] at hc
      | some j =>
        simp only [hj, Option.map_some, Option.some.injEq] at hc
        subst hc
        obtain ⟨k, q, rfl, h0, hn, hq⟩ := idx_spec hix hj
        obtain ⟨h4, h5, h6, h7⟩ := hx
        obtain ⟨cap, el, sz, rfl, _⟩ := h7 ((H.dom id).2 hs)
        refine ⟨.pointer (some ⟨M.φ id, off + j * es, none⟩), ?_, ⟨rfl, rfl, h6, fun _ => rfl⟩⟩
        simp [Instr.indexAt, asIntOf, hd, h0, hn, run_sizeOf_el he, hq, addr_add]
    · cases hc
  · rename_i e es ea eb n cs htd
    obtain ⟨rfl, he⟩ := TD_slice (hd3.symm.trans htd)
    split at hc
    · cases hc
    · rename_i hne
      cases hj : idx ix n with
      | none => simp [hj] at hc
      | some j =>
        simp only [hj, Option.map_some, Option.some.injEq] at hc
        subst hc
        obtain ⟨k, q, rfl, h0, hn, hq⟩ := idx_spec hix hj
        obtain ⟨base, cap, rfl, hcap, hcs⟩ := hx
        obtain ⟨b', off, C, e', fz, rfl, hb, hfree, hpre⟩ := hcs.resolve_left hne
        refine ⟨.pointer (some ⟨b', off + j * es, none⟩), ?_, ⟨b', off + j * es, C, e', fz, rfl, hb, hfree, by have := hpre.drop (j * es); rwa [List.drop_drop] at this⟩⟩
        simp [Instr.indexAt, asIntOf, hd, h0, hn, run_sizeOf_el he, hq, addr_add]
  · cases hc

def indexA (i : TyI) (x ix : AV) : Option AV :=
  match i.td, x with
  | .array n _ es ea, .agg cs => match idx ix n with
    | some j => partA (j * es) es ea cs
    | none => none
  | .str, .str s => match ix with
    | .int _ q => if 0 ≤ q then (s[q.toNat]?).map fun b => .int .u8 b.toNat else none
    | _ => none
  | _, _ => none

theorem index_sound {t : TypeId} {i : TyI} (hi : tyI P t = some i) {x ix c : AV} {xv iv : Value} (hx : VRel M true x xv) (hix : VRel M true ix iv)
    (hc : indexA i x ix = some c) : ∃ v, (Instr.index t xv iv).run P M.w = .ok v M.w ∧ VRel M true c v := by
  obtain ⟨d, hd, hd2, hd3⟩ := run_underlyingI M.w hi
  unfold indexA at hc
  split at hc
  · rename_i n e es ea cs htd
    obtain ⟨rfl, eb, he⟩ := TD_array (hd3.symm.trans htd)
    split at hc
    · rename_i j hj
      obtain ⟨k, q, rfl, h0, hn, hq⟩ := idx_spec hix hj
      obtain ⟨l, rfl, hl⟩ := hx
      obtain ⟨v, hv, hr⟩ := part_sound he hl hc
      exact ⟨v, by simp [Instr.index, asIntOf, hd, h0, hn, run_sizeOf_el he, hq, hv], hr⟩
    · cases hc
  · rename_i s htd
    obtain rfl := TD_str (hd3.symm.trans htd)
    split at hc
    · rename_i k q
      split at hc
      · rename_i h0
        cases hb : s[q.toNat]? with
        | none => simp [hb] at hc
        | some b =>
          simp only [hb, Option.map_some, Option.some.injEq] at hc
          subst hc
          simp only [VRel] at hix hx
          subst hix hx
          exact ⟨_, by simp [Instr.index, asIntOf, hd, h0, hb], rfl⟩
      · cases hc
    · cases hc
  · cases hc

def extractA (x : AV) (j : Nat) : Option AV :=
  match x with
  | .tup vs => vs[j]?
  | _ => none
theorem extract_sound {x c : AV} {xv : Value} {j : Nat} (hx : VRel M true x xv) (hc : extractA x j = some c) : ∃ v, (Instr.extract xv j).run P M.w = .ok v M.w ∧ VRel M true c v := by
  unfold extractA at hc
  split at hc
  · obtain ⟨l, rfl, hl⟩ := hx
    obtain ⟨v, hv, hr⟩ := hl.get j c hc
    have hv' : (⟨l⟩ : Array Value)[j]? = some v := by simpa using hv
    refine ⟨v, ?_, hr⟩
    simp only [Instr.extract, hv']
    rfl
  · cases hc
end Go.Am

/-! 'Am', part 7: slice expressions, what a slice holds, conversions, len, copy, append. -/
namespace Go.Am
variable {P : Program} {X : Ctx} {h : HP} {M : Mem}

/-! ### Slice expressions -/
def ORel (M : Mem) : Option AV → Option Value → Prop
  | none, none => True
  | some a, some v => VRel M true a v
  | _, _ => False

def bnd (a : Option AV) (dflt lim : Nat) : Option Nat :=
  match a with
  | none => some dflt
  | some (.int _ i) => if 0 ≤ i ∧ i ≤ lim then some i.toNat else none
  | some _ => none

theorem run_sliceBound (w : World) (k : IntKind) (i : Int) (y : Nat) (c : BoundsCode) (h0 : 0 ≤ i) (h1 : i ≤ y) : (Instr.sliceBound (.int k i) y c).run P w = .ok i.toNat w := by
  simp [Instr.sliceBound, asIntOf, h0, h1]

/-- A slice of which 'm' is the room. -/
theorem run_sliceBounds {lo hi mx : Option AV} {vlo vhi vmx : Option Value} (hlo : ORel M lo vlo) (hhi : ORel M hi vhi) (hmx : ORel M mx vmx) (isS : Bool) (len cap n : Nat) (hn : n ≤ cap) (hlen : hi = none → len = n)
    {mB hB l : Nat} (e1 : bnd mx n n = some mB) (e2 : bnd hi n mB = some hB) (e3 : bnd lo 0 hB = some l) (hm : hi = none → mx = none) :
    ∃ m, (Instr.sliceBounds isS len cap vlo vhi vmx).run P M.w = .ok (l, hB, m) M.w ∧ l ≤ hB ∧ hB ≤ m ∧ m ≤ cap ∧ hB ≤ n := by
  have hmB : mB ≤ n ∧ ∃ m, mB ≤ m ∧ m ≤ cap ∧ ((match vmx with
      | some v => Instr.sliceBound v cap (if isS then .slice3Acap else .slice3Alen)
      | none => pure cap : Sem Nat).run P M.w = .ok m M.w) ∧ (mx ≠ none → m = mB) ∧ (mx = none → m = cap ∧ mB = n) := by
    unfold bnd at e1
    split at e1
    · cases e1
      cases vmx with
      | none => exact ⟨Nat.le_refl _, cap, hn, Nat.le_refl _, rfl, fun h => absurd rfl h, fun _ => ⟨rfl, rfl⟩⟩
      | some v => simp [ORel] at hmx
    · rename_i k i
      split at e1
      · rename_i hc
        cases e1
        cases vmx with
        | none => simp [ORel] at hmx
        | some v =>
          simp only [ORel, VRel] at hmx
          subst hmx
          refine ⟨by omega, i.toNat, Nat.le_refl _, by omega, run_sliceBound _ k i cap _ hc.1 (by omega), fun _ => rfl, fun h => by cases h⟩
      · cases e1
    · cases e1
  obtain ⟨hmn, m, hm1, hm2, hm3, hm4, hm5⟩ := hmB
  have hhB : hB ≤ mB ∧ ((match vhi, vmx with
      | some v, some _ => Instr.sliceBound v m .slice3B
      | some v, none => Instr.sliceBound v m (if isS then .sliceAcap else .sliceAlen)
      | none, none => pure len
      | none, some _ => stuck "Slice: max without high" : Sem Nat).run P M.w = .ok hB M.w) := by
    unfold bnd at e2
    split at e2
    · cases e2
      have hmx0 : mx = none := hm rfl
      subst hmx0
      have h5 := hm5 rfl
      cases vhi with
      | none =>
        cases vmx with
        | none => exact ⟨by omega, by rw [hlen rfl]; rfl⟩
        | some v => simp [ORel] at hmx
      | some v => simp [ORel] at hhi
    · rename_i k i
      split at e2
      · rename_i hc
        cases e2
        cases vhi with
        | none => simp [ORel] at hhi
        | some v =>
          simp only [ORel, VRel] at hhi
          subst hhi
          refine ⟨by omega, ?_⟩
          cases vmx <;> exact run_sliceBound _ k i m _ hc.1 (by omega)
      · cases e2
    · cases e2
  have hll : l ≤ hB ∧ ((match vlo with
      | some v => Instr.sliceBound v hB (if vmx.isSome then .slice3C else .sliceB)
      | none => pure 0 : Sem Nat).run P M.w = .ok l M.w) := by
    unfold bnd at e3
    split at e3
    · cases e3
      cases vlo with
      | none => exact ⟨Nat.zero_le _, rfl⟩
      | some v => simp [ORel] at hlo
    · rename_i k i
      split at e3
      · rename_i hc
        cases e3
        cases vlo with
        | none => simp [ORel] at hlo
        | some v =>
          simp only [ORel, VRel] at hlo
          subst hlo
          exact ⟨by omega, run_sliceBound _ k i hB _ hc.1 hc.2⟩
      · cases e3
    · cases e3
  refine ⟨m, ?_, hll.1, by omega, hm2, by omega⟩
  have hh := hhB.2
  have hl := hll.2
  clear hhB hll hm4 hm5 hm e1 e2 e3 hlen
  cases vmx <;> cases vhi <;> cases vlo <;> simp only at hm3 hh hl <;> simp only [Instr.sliceBounds] <;>
    first
    | (rw [Sem.run_bind, hm3, Result.andThen_ok, Sem.run_bind, hh, Result.andThen_ok, Sem.run_bind, hl, Result.andThen_ok]; rfl)
    | (exfalso; revert hh; simp [stuck])

def winA (id off es l hB : Nat) : AV := if l = 0 then .sl id off es hB else if l < hB then .sl id (off + l * es) es (hB - l) else .ro 0 []

def sliceA (i : TyI) (h : HP) (x : AV) (lo hi mx : Option AV) : Option AV :=
  match i.td, x with
  | .array n _ es _, .ptr id off => match h.bk id with
    | some k => if off + n * es ≤ k.cs.length ∧ (hi = none → mx = none) then
        (match bnd mx n n with
        | some mB => match bnd hi n mB with
          | some hB => match bnd lo 0 hB with
            | some l => some (winA id off es l hB)
            | none => none
          | none => none
        | none => none) else none
    | none => none
  | .slice _ es' _ _, .sl id off es n => if es = es' ∧ (h.bk id).isSome = true ∧ (hi = none → mx = none) then
        (match bnd mx n n with
        | some mB => match bnd hi n mB with
          | some hB => match bnd lo 0 hB with
            | some l => some (winA id off es l hB)
            | none => none
          | none => none
        | none => none) else none
  | .slice _ es _ _, .ro n cs => if (hi = none → mx = none) then
        (match bnd mx n n with
        | some mB => match bnd hi n mB with
          | some hB => match bnd lo 0 hB with
            | some l => some (.ro (hB - l) ((cs.drop (l * es)).take ((hB - l) * es)))
            | none => none
          | none => none
        | none => none) else none
  | .slice _ _ _ _, .nils => if mx = none then
        (match bnd hi 0 0 with
        | some hB => match bnd lo 0 hB with
            | some _ => some .nils
            | none => none
        | none => none) else none
  | .str, .str s => if mx = none then
        (match bnd hi s.size s.size with
        | some hB => match bnd lo 0 hB with
            | some l => some (.str (s.extract l hB))
            | none => none
        | none => none) else none
  | _, _ => none

theorem win_rel {id off es cap l hB m : Nat} {e : TypeId} {sz : Nat} (h6 : id < M.n) (hs : M.w.shape? (M.φ id) = some (e, sz)) (hc : off + cap * es ≤ sz) (h1 : l ≤ hB) (h2 : hB ≤ m) (h3 : m ≤ cap) :
    VRel M true (winA id off es l hB) (.slice (some (if m = l then ⟨M.φ id, off, none⟩ else (⟨M.φ id, off, none⟩ : Addr).add (l * es))) (hB - l) (m - l)) := by
  have hcm : l * es + (m - l) * es ≤ cap * es := by rw [← Nat.add_mul]; exact Nat.mul_le_mul_right _ (by omega)
  unfold winA
  split
  · rename_i h0
    subst h0
    have hmul : m * es ≤ cap * es := Nat.mul_le_mul_right _ h3
    refine ⟨rfl, rfl, h6, fun _ => ⟨m, e, sz, ?_, by omega, hs, by omega⟩⟩
    simp [addr_add]
  · split
    · rename_i h4
      refine ⟨rfl, rfl, h6, fun _ => ⟨m - l, e, sz, ?_, by omega, hs, by omega⟩⟩
      rw [if_neg (by omega), addr_add]
    · have : hB - l = 0 := by omega
      rw [this]
      exact ⟨_, _, rfl, Nat.zero_le _, .inl rfl⟩

theorem slice_sound (H : HRel X h M) {t : TypeId} {i : TyI} (hi : tyI P t = some i) {x c : AV} {xv : Value} {lo hiB mx : Option AV} {vlo vhi vmx : Option Value} (hx : VRel M true x xv)
    (hlo : ORel M lo vlo) (hhi : ORel M hiB vhi) (hmx : ORel M mx vmx) (hc : sliceA i h x lo hiB mx = some c) :
    ∃ v, (Instr.sliceAt t xv vlo vhi vmx).run P M.w = .ok v M.w ∧ VRel M true c v := by
  obtain ⟨d, hd, hd2, hd3⟩ := run_underlyingI M.w hi
  unfold sliceA at hc
  split at hc
  · rename_i n e es ea id off htd
    obtain ⟨rfl, eb, he⟩ := TD_array (hd3.symm.trans htd)
    split at hc
    · rename_i k hk
      split at hc
      · rename_i hcond
        split at hc
        · rename_i mB e1
          split at hc
          · rename_i hB e2
            split at hc
            · rename_i l e3
              cases hc
              have hD : M.D id := (H.dom id).2 (by simp [hk])
              obtain ⟨_, _, h6, h7⟩ := hx
              obtain rfl := h7 hD
              obtain ⟨C, el, hb, hpre, _⟩ := H.bk id k hk
              have hlen := hpre.length
              simp only [Array.length_toList] at hlen
              obtain ⟨m, hr, q1, q2, q3, q4⟩ := run_sliceBounds (P := P) hlo hhi hmx false n n n (Nat.le_refl _) (fun _ => rfl) e1 e2 e3 hcond.2
              refine ⟨_, ?_, win_rel (off := off) (es := es) (cap := n) h6 (e := el) (sz := C.size) (by simp [World.shape?, hb]) (by omega) q1 q2 q3⟩
              simp [Instr.sliceAt, hd, Instr.sureAddr, hr, run_sizeOf_el he]
            · cases hc
          · cases hc
        · cases hc
      · cases hc
    · cases hc
  · rename_i e es' ea eb id off es n htd
    obtain ⟨rfl, he⟩ := TD_slice (hd3.symm.trans htd)
    split at hc
    · rename_i hcond
      obtain ⟨rfl, hs, hcond⟩ := hcond
      split at hc
      · rename_i mB e1
        split at hc
        · rename_i hB e2
          split at hc
          · rename_i l e3
            cases hc
            have hD : M.D id := (H.dom id).2 hs
            obtain ⟨_, _, h6, h7⟩ := hx
            obtain ⟨cap, el, sz, rfl, hn, hsh, hcp⟩ := h7 hD
            obtain ⟨m, hr, q1, q2, q3, q4⟩ := run_sliceBounds (P := P) hlo hhi hmx true n cap n hn (fun _ => rfl) e1 e2 e3 hcond
            refine ⟨_, ?_, win_rel (off := off) (es := es) (cap := cap) h6 (e := el) (sz := sz) hsh hcp q1 q2 q3⟩
            simp only [Instr.sliceAt, Sem.run_bind, hd, Result.andThen_ok, Instr.slice, hr, run_sizeOf_el he, Sem.run_pure]
            by_cases hml : m = l <;> simp [hml]
          · cases hc
        · cases hc
      · cases hc
    · cases hc
  · rename_i e es ea eb n cs htd
    obtain ⟨rfl, he⟩ := TD_slice (hd3.symm.trans htd)
    split at hc
    · rename_i hcond
      split at hc
      · rename_i mB e1
        split at hc
        · rename_i hB e2
          split at hc
          · rename_i l e3
            cases hc
            obtain ⟨base, cap, rfl, hn, hcs⟩ := hx
            obtain ⟨m, hr, q1, q2, q3, q4⟩ := run_sliceBounds (P := P) hlo hhi hmx true n cap n hn (fun _ => rfl) e1 e2 e3 hcond
            refine ⟨.slice (if m = l then base else base.map (·.add (l * es))) (hB - l) (m - l), ?_, ⟨_, _, rfl, by omega, ?_⟩⟩
            · simp only [Instr.sliceAt, Sem.run_bind, hd, Result.andThen_ok, Instr.slice, hr, run_sizeOf_el he, Sem.run_pure]
            · rcases hcs with rfl | ⟨b, off, C, e', fz, rfl, hb, hfree, hpre⟩
              · left; simp
              · by_cases hml : m = l
                · left
                  have : hB - l = 0 := by omega
                  simp [this]
                · right
                  exact ⟨b, off + l * es, C, e', fz, by simp [hml, addr_add], hb, hfree, by have := (hpre.drop (l * es)).take ((hB - l) * es); rwa [List.drop_drop] at this⟩
          · cases hc
        · cases hc
      · cases hc
    · cases hc
  · rename_i e es ea eb htd
    obtain ⟨rfl, he⟩ := TD_slice (hd3.symm.trans htd)
    split at hc
    · rename_i hcond
      subst hcond
      split at hc
      · rename_i hB e2
        split at hc
        · rename_i l e3
          cases hc
          simp only [VRel] at hx
          subst hx
          obtain ⟨m, hr, q1, q2, q3, q4⟩ := run_sliceBounds (P := P) hlo hhi hmx true 0 0 0 (Nat.le_refl _) (fun _ => rfl) (mB := 0) rfl e2 e3 (fun _ => rfl)
          have hl0 : l = 0 := by omega
          have hB0 : hB = 0 := by omega
          have hm0 : m = 0 := by omega
          subst hl0 hB0 hm0
          refine ⟨.slice none 0 0, ?_, rfl⟩
          simp [Instr.sliceAt, hd, Instr.slice, hr, run_sizeOf_el he]
        · cases hc
      · cases hc
    · cases hc
  · rename_i s htd
    obtain rfl := TD_str (hd3.symm.trans htd)
    split at hc
    · rename_i hcond
      subst hcond
      split at hc
      · rename_i hB e2
        split at hc
        · rename_i l e3
          cases hc
          simp only [VRel] at hx
          subst hx
          obtain ⟨m, hr, q1, q2, q3, q4⟩ := run_sliceBounds (P := P) hlo hhi hmx false s.size s.size s.size (Nat.le_refl _) (fun _ => rfl) (mB := s.size) rfl e2 e3 (fun _ => rfl)
          refine ⟨.string (s.extract l hB), ?_, rfl⟩
          have hv0 : vmx = none := by cases vmx <;> simp_all [ORel]
          subst hv0
          simp [Instr.sliceAt, hd, Instr.slice, hr]
        · cases hc
      · cases hc
    · cases hc
  · cases hc
end Go.Am

/-! 'Am', part 8: what a slice holds, conversions, len, copy, append, make. -/
namespace Go.Am
variable {P : Program} {X : Ctx} {h : HP} {M : Mem}

def byteAV (b : UInt8) : AV := .int .u8 (b.toNat : Int)

/-- How many elements a slice (or a string) has, and its cells ('es': cells of an element). -/
def srcA (es : Nat) (h : HP) : AV → Option (Nat × List AV)
  | .ro n cs => if cs.length = n * es then some (n, cs) else none
  | .nils => some (0, [])
  | .sl id off es' n => match h.bk id with
    | some k => if es = es' ∧ off + n * es ≤ k.cs.length then some (n, (k.cs.drop off).take (n * es)) else none
    | none => none
  | .str s => if es = 1 then some (s.size, s.data.toList.map byteAV) else none
  | .exact (.slice _ 0 _) => some (0, [])
  | _ => none

theorem VPre.toRels {M : Mem} {cs : List AV} {l : List Value} (h : VPre M cs l) : VRels M true cs (l.take cs.length) := (VPre.flag _ _ h).toRels

theorem bytes_rel (M : Mem) (r : Bool) : ∀ l : List UInt8, VRels M r (l.map byteAV) (l.map fun b => Value.int .u8 b.toNat)
  | [] => rfl
  | b :: l => ⟨_, _, rfl, rfl, bytes_rel M r l⟩

theorem srcA_length {es : Nat} {a : AV} {n : Nat} {cs : List AV} (hs : srcA es h a = some (n, cs)) : cs.length = n * es := by
  unfold srcA at hs
  split at hs
  · split at hs
    · cases hs; assumption
    · cases hs
  · cases hs; simp
  · split at hs
    · split at hs
      · rename_i hc
        cases hs
        rw [List.length_take, List.length_drop]; omega
      · cases hs
    · cases hs
  · split at hs
    · rename_i h1
      cases hs
      rw [h1, Nat.mul_one, List.length_map]
      rfl
    · cases hs
  · cases hs; simp
  · cases hs

/-- The first k elements of a slice, read. -/
theorem srcA_sound (H : HRel X h M) {es : Nat} {a : AV} {v : Value} (hv : VRel M true a v) {n : Nat} {cs : List AV} (hs : srcA es h a = some (n, cs)) :
    (Builtin.lenOf v).run P M.w = .ok n M.w ∧ ∀ k, k ≤ n → ∃ l, (∀ d, (Builtin.firstCells es k v).run P { M.w with drawn := d } = .ok ⟨l⟩ { M.w with drawn := d }) ∧ VRels M true (cs.take (k * es)) l := by
  have hlen := srcA_length hs
  unfold srcA at hs
  split at hs
  · rename_i n' cs'
    split at hs
    · rename_i hl
      cases hs
      obtain ⟨base, cap, rfl, hn, hcs⟩ := hv
      refine ⟨rfl, fun k hk => ?_⟩
      have hkn : k * es ≤ n * es := Nat.mul_le_mul_right _ hk
      rcases hcs with rfl | ⟨b, off, C, e, fz, rfl, hb, hfree, hpre⟩
      · have h0 : k * es = 0 := by rw [List.length_nil] at hl; omega
        cases base with
        | none => exact ⟨[], fun _ => rfl, by simp [VRels]⟩
        | some a => exact ⟨[], fun _ => by simp only [Builtin.firstCells, h0, loadCells, loadCellsFrom]; rfl, by simp [VRels]⟩
      · have hlp := hpre.length
        simp only [List.length_drop, Array.length_toList] at hlp
        by_cases h0 : k * es = 0
        · exact ⟨[], fun _ => by simp only [Builtin.firstCells, h0, loadCells, loadCellsFrom]; rfl, by simp [h0, VRels]⟩
        · refine ⟨(C.toList.drop off).take (k * es), fun dr => by simp only [Builtin.firstCells]; rw [run_loadCells_at P { M.w with drawn := dr } b off (k * es) C e fz hb (by omega)], ?_⟩
          have := (hpre.take (k * es)).toRels
          rwa [List.length_take, Nat.min_eq_left (by omega)] at this
    · cases hs
  · cases hs
    simp only [VRel] at hv
    subst hv
    refine ⟨rfl, fun k hk => ⟨[], fun _ => rfl, by simp [VRels]⟩⟩
  · rename_i id off es' n'
    split at hs
    · rename_i kb hk
      split at hs
      · rename_i hc
        obtain ⟨rfl, hc⟩ := hc
        cases hs
        have hD : M.D id := (H.dom id).2 (by simp [hk])
        obtain ⟨_, _, h6, h7⟩ := hv
        obtain ⟨cap, e, sz, rfl, hn, hsh, hcp⟩ := h7 hD
        obtain ⟨C, el, hb, hpre, _⟩ := H.bk id kb hk
        have hl := hpre.length
        simp only [Array.length_toList] at hl
        refine ⟨rfl, fun k hkn => ?_⟩
        have hkn' : k * es ≤ n * es := Nat.mul_le_mul_right _ hkn
        refine ⟨(C.toList.drop off).take (k * es), fun dr => by simp only [Builtin.firstCells]; rw [run_loadCells_at P { M.w with drawn := dr } _ off (k * es) C el (0, 0) hb (by omega)], ?_⟩
        have := ((hpre.drop off).take (k * es)).toRels
        rw [List.length_take, Nat.min_eq_left (by rw [List.length_drop]; omega)] at this
        rwa [List.take_take, Nat.min_eq_left hkn']
      · cases hs
    · cases hs
  · rename_i s
    split at hs
    · rename_i h1
      subst h1
      cases hs
      simp only [VRel] at hv
      subst hv
      refine ⟨rfl, fun k hk => ⟨(s.data.toList.take k).map fun b => Value.int .u8 b.toNat, ?_, ?_⟩⟩
      · intro dr
        simp only [Builtin.firstCells, Sem.run_pure]
        congr 1
        apply Array.ext'
        simp [ByteArray.extract, ByteArray.copySlice]
      · rw [Nat.mul_one, ← List.map_take]
        exact bytes_rel M true _
    · cases hs
  · rename_i base cap
    cases hs
    simp only [VRel] at hv
    subst hv
    refine ⟨rfl, fun k hk => ⟨[], fun d => ?_, by simp [VRels]⟩⟩
    obtain rfl : k = 0 := by omega
    cases base with
    | none => rfl
    | some a => simp only [Builtin.firstCells, Nat.zero_mul, loadCells, loadCellsFrom]; rfl
  · cases hs

/-! ### len -/
def lenA (i : TyI) (h : HP) (a : AV) : Option Nat :=
  match i.td, a with
  | .str, .str s => some s.size
  | .array n _ _ _, _ => some n
  | .slice _ _ _ _, .ro n _ => some n
  | .slice _ _ _ _, .nils => some 0
  | .slice _ _ _ _, .sl id _ _ n => if (h.bk id).isSome = true then some n else none
  | _, _ => none

theorem len_sound (H : HRel X h M) {t ty : TypeId} {i : TyI} (hi : tyI P t = some i) {a : AV} {v : Value} (hv : VRel M true a v) {n : Nat} (hn : lenA i h a = some n) :
    (Builtin.len_ #[t] ty #[v]).run P M.w = .ok (.int .i64 n) M.w := by
  obtain ⟨d, hd, hd2, hd3⟩ := run_underlyingI M.w hi
  unfold lenA at hn
  split at hn
  · rename_i s htd
    obtain rfl := TD_str (hd3.symm.trans htd)
    cases hn
    simp only [VRel] at hv
    subst hv
    simp [Builtin.len_, hd, goInt]
  · rename_i n e es ea htd
    obtain ⟨rfl, _⟩ := TD_array (hd3.symm.trans htd)
    cases hn
    simp [Builtin.len_, hd, goInt]
  · rename_i n cs htd
    obtain ⟨rfl, _⟩ := TD_slice (hd3.symm.trans htd)
    cases hn
    obtain ⟨base, cap, rfl, _⟩ := hv
    simp [Builtin.len_, hd, goInt]
  · rename_i htd
    obtain ⟨rfl, _⟩ := TD_slice (hd3.symm.trans htd)
    cases hn
    simp only [VRel] at hv
    subst hv
    simp [Builtin.len_, hd, goInt]
  · rename_i id off es n htd
    obtain ⟨rfl, _⟩ := TD_slice (hd3.symm.trans htd)
    split at hn
    · rename_i hs
      cases hn
      obtain ⟨_, _, h6, h7⟩ := hv
      obtain ⟨cap, e, sz, rfl, _⟩ := h7 ((H.dom id).2 hs)
      simp [Builtin.len_, hd, goInt]
    · cases hn
  · cases hn

/-! ### copy -/
/-- copy into a slice of the call's own. -/
def copyA (i : TyI) (h : HP) (dst src : AV) : Option (AV × HP) :=
  match i.td, dst with
  | .slice _ es _ _, .sl id off es' n => match h.bk id, srcA es h src with
    | some k, some (m, cs) => if es = es' ∧ off + n * es ≤ k.cs.length ∧ cs.all leafOk = true then
        some (.int .i64 ((Nat.min m n : Nat) : Int), { h with bk := upd h.bk id (some ⟨k.cs.take off ++ cs.take (Nat.min m n * es) ++ k.cs.drop (off + (cs.take (Nat.min m n * es)).length), k.fix⟩) }) else none
    | _, _ => none
  | _, _ => none

theorem all_take {l : List AV} (h : l.all leafOk = true) (k : Nat) : (l.take k).all leafOk = true := by
  rw [List.all_eq_true] at h ⊢
  exact fun x hx => h x (List.mem_of_mem_take hx)

theorem copy_sound (H : HRel X h M) {t t2 ty : TypeId} {i : TyI} (hi : tyI P t = some i) {a b : AV} {va vb : Value} (ha : VRel M true a va) (hb : VRel M true b vb) {c : AV} {h' : HP}
    (hc : copyA i h a b = some (c, h')) : ∃ M' v, (Builtin.copy_ #[t, t2] ty #[va, vb]).run P M.w = .ok v M'.w ∧ M.le M' ∧ M'.O = M.O ∧ HRel X h' M' ∧ VRel M' true c v := by
  obtain ⟨d, hd, hd2, hd3⟩ := run_underlyingI M.w hi
  unfold copyA at hc
  split at hc
  · rename_i e es ea eb id off es' n htd
    obtain ⟨rfl, he⟩ := TD_slice (hd3.symm.trans htd)
    split at hc
    · rename_i k m cs hk hsrc
      split at hc
      · rename_i hcond
        obtain ⟨rfl, hle, hall⟩ := hcond
        cases hc
        have hD : M.D id := (H.dom id).2 (by simp [hk])
        obtain ⟨_, _, h6, h7⟩ := ha
        obtain ⟨cap, el, sz, rfl, hn, hsh, hcp⟩ := h7 hD
        obtain ⟨C, e', hC, hpre, hf⟩ := H.bk id k hk
        obtain ⟨hlen, hfc⟩ := srcA_sound (P := P) H hb hsrc
        obtain ⟨l, hl, hrel⟩ := hfc (Nat.min m n) (Nat.min_le_left _ _)
        have hll := hrel.length
        have hcl := srcA_length hsrc
        have hmn : Nat.min m n * es ≤ n * es := Nat.mul_le_mul_right _ (Nat.min_le_right _ _)
        have hmm : Nat.min m n * es ≤ m * es := Nat.mul_le_mul_right _ (Nat.min_le_left _ _)
        rw [List.length_take] at hll
        have hpl := hpre.length
        simp only [Array.length_toList] at hpl
        have hst := run_storeCells_at P (M.φ id) off e' l 0 C M.w hC (by omega) (leaves_oneCell hrel (all_take hall _))
        have hsz : (C.toList.take off ++ l ++ C.toList.drop (off + l.length)).toArray.size = C.size := by simp; omega
        have hle2 : off + (cs.take (Nat.min m n * es)).length ≤ k.cs.length := by rw [List.length_take]; omega
        have R := H.setRow hk hC (C' := (C.toList.take off ++ l ++ C.toList.drop (off + l.length)).toArray) hsz
          (k' := ⟨k.cs.take off ++ cs.take (Nat.min m n * es) ++ k.cs.drop (off + (cs.take (Nat.min m n * es)).length), k.fix⟩) (seg_rel off hpre hrel hle2) (fun hx => by
            have := hf hx
            rw [hsz]; simp only [List.length_append, List.length_take, List.length_drop] at hle2 ⊢; omega)
        refine ⟨_, .int .i64 (Nat.min m n : Nat), ?_, R.1, rfl, R.2, rfl⟩
        simp only [Nat.add_zero] at hst
        have hl := hl M.w.drawn
        simp only at hl
        simp [Builtin.copy_, hd, hlen, run_sizeOf_el he, hl, hst, goInt]
      · cases hc
    · cases hc
  · cases hc
end Go.Am

/-! 'Am', part 9: append, make, conversions. -/
namespace Go.Am
variable {P : Program} {X : Ctx} {h : HP} {M : Mem}

/-! ### A block gets another number -/
def HP.move (h : HP) (id : Nat) (k : Blk) : HP := ⟨upd (upd h.bk id none) h.nt (some k), h.nt + 1⟩
def Mem.move (M : Mem) (id : Nat) : Mem := { φ := upd M.φ M.n (M.φ id), D := fun j => (M.D j ∧ j ≠ id) ∨ j = M.n, n := M.n + 1, O := M.O, w := M.w }

theorem HRel.move (H : HRel X h M) {id : Nat} {k : Blk} (hk : h.bk id = some k) : M.le (M.move id) ∧ HRel X (h.move id k) (M.move id) := by
  have hD : M.D id := (H.dom id).2 (by simp [hk])
  have hlt := H.lt id hD
  have hn : M.n = h.nt := H.n
  have hle : M.le (M.move id) := by
    refine ⟨Nat.le_succ _, fun j hj hDj => ?_, fun b C el fz hf hh => ⟨⟨fz, hh⟩, fun j hj => ?_, hf.2⟩⟩
    · have hjn : j ≠ M.n := by omega
      exact ⟨(hDj.resolve_right hjn).1, upd_other _ _ _ _ hjn, rfl⟩
    · by_cases hjn : j = M.n
      · subst hjn
        show upd M.φ M.n (M.φ id) M.n ≠ b
        rw [upd_same]; exact hf.1 id hD
      · show upd M.φ M.n (M.φ id) j ≠ b
        rw [upd_other _ _ _ _ hjn]
        exact hf.1 j (hj.resolve_right hjn).1
  refine ⟨hle, by simp [Mem.move, HP.move, hn], fun j => ?_, fun j hj => ?_, fun j kj hj => ?_, fun i j hi hj hij => ?_, H.kept, H.old, fun j hj => ?_⟩
  · show ((M.D j ∧ j ≠ id) ∨ j = M.n) ↔ (upd (upd h.bk id none) h.nt (some k) j).isSome = true
    by_cases hjn : j = h.nt
    · simp [upd, hjn, hn]
    · by_cases hji : j = id
      · simp only [upd, hji, hn]; simp
      · simp [upd, hjn, hji, hn, H.dom j]
  · show j < M.n + 1
    rcases hj with hj | hj
    · have := H.lt j hj.1; omega
    · omega
  · by_cases hjn : j = h.nt
    · subst hjn
      simp only [HP.move, upd_same, Option.some.injEq] at hj
      subst hj
      obtain ⟨C, e, h1, h2, h3⟩ := H.bk id k hk
      refine ⟨C, e, ?_, VPreR.mono hle _ _ h2, h3⟩
      show M.w.heap[upd M.φ M.n (M.φ id) h.nt]? = _
      rw [hn, upd_same]; exact h1
    · simp only [HP.move, upd_other _ _ _ _ hjn] at hj
      by_cases hji : j = id
      · subst hji; simp [upd_same] at hj
      · rw [upd_other _ _ _ _ hji] at hj
        obtain ⟨C, e, h1, h2, h3⟩ := H.bk j kj hj
        refine ⟨C, e, ?_, VPreR.mono hle _ _ h2, h3⟩
        show M.w.heap[upd M.φ M.n (M.φ id) j]? = _
        rw [hn, upd_other _ _ _ _ hjn]; exact h1
  · change upd M.φ M.n (M.φ id) i = upd M.φ M.n (M.φ id) j at hij
    by_cases hin : i = M.n <;> by_cases hjn : j = M.n
    · omega
    · subst hin
      rw [upd_same, upd_other _ _ _ _ hjn] at hij
      exact absurd (H.inj id j hD (hj.resolve_right hjn).1 hij) (Ne.symm (hj.resolve_right hjn).2)
    · subst hjn
      rw [upd_same, upd_other _ _ _ _ hin] at hij
      exact absurd (H.inj i id (hi.resolve_right hin).1 hD hij) (hi.resolve_right hin).2
    · rw [upd_other _ _ _ _ hin, upd_other _ _ _ _ hjn] at hij
      exact H.inj i j (hi.resolve_right hin).1 (hj.resolve_right hjn).1 hij
  · show (_ ≤ upd M.φ M.n (M.φ id) j ∨ X.S (upd M.φ M.n (M.φ id) j)) ∧ ¬ M.O (upd M.φ M.n (M.φ id) j)
    by_cases hjn : j = M.n
    · subst hjn; rw [upd_same]; exact H.own id hD
    · rw [upd_other _ _ _ _ hjn]; exact H.own j (hj.resolve_right hjn).1

theorem Mem.le.trans {A B C : Mem} (h : A.le B) (k : B.le C) : A.le C := by
  refine ⟨Nat.le_trans h.n k.n, fun id hid hD => ?_, fun b D e fz hf hh => ?_⟩
  · obtain ⟨h1, h2, h3⟩ := k.D id (Nat.lt_of_lt_of_le hid h.n) hD
    obtain ⟨h4, h5, h6⟩ := h.D id hid h1
    exact ⟨h4, h2.trans h5, by rw [← h5, h3, h5, h6]⟩
  · obtain ⟨⟨fz', h1⟩, h2⟩ := h.ro b D e fz hf hh
    exact k.ro b D e fz' h2 h1

/-! ### append -/
/-- The zero value of a type has as many cells as the type. -/
def zOk (P : Program) (e : TypeId) (es : Nat) : Bool :=
  match tyI P e with
  | some i => i.zero.length == es
  | none => false

def appendB (P : Program) (e es eb : Nat) (h : HP) (dst src : AV) : Option (AV × HP) :=
  match srcA es h src with
  | some (m, new) => if zOk P e es = true ∧ new.all leafOk = true then
      (match dst with
      | .nils => if m = 0 then some (.nils, h) else if m * eb ≤ 2 ^ 46 ∧ m ≤ 2 ^ 62 then some (.sl h.nt 0 es m, h.add ⟨new, false⟩) else none
      | .sl id 0 es' n => match h.bk id with
        | some k => if es = es' ∧ n * es ≤ k.cs.length ∧ (n + m) * eb ≤ 2 ^ 46 ∧ n + m ≤ 2 ^ 62 then
            some (.sl h.nt 0 es (n + m), h.move id ⟨k.cs.take (n * es) ++ new, false⟩) else none
        | none => none
      | _ => none) else none
  | none => none
def appendA (P : Program) (i i2 : TyI) (h : HP) (dst src : AV) : Option (AV × HP) :=
  match i.td, i2.td with
  | .slice e es _ eb, .slice _ _ _ _ => appendB P e es eb h dst src
  | .slice e es _ eb, .str => appendB P e es eb h dst src
  | _, _ => none

theorem srcOf (H : HRel X h M) {es : Nat} {t2 : TypeId} {a : AV} {v : Value} (hv : VRel M true a v) {m : Nat} {new : List AV} (hs : srcA es h a = some (m, new)) (hall : new.all leafOk = true)
    (hk : (∃ e', P.underlying t2 = some (.slice e')) ∨ P.underlying t2 = some .string) : ∃ l, Src P es t2 v m l M.w ∧ VRels M true new l := by
  obtain ⟨h1, h2⟩ := srcA_sound (P := P) H hv hs
  obtain ⟨l, h3, h4⟩ := h2 m (Nat.le_refl _)
  have hl := srcA_length hs
  rw [List.take_of_length_le (by omega)] at h4
  refine ⟨l, ⟨hk, fun w' => ?_, h3 M.w.drawn, h3 _, by rw [h4.length, hl], leaves_oneCell h4 hall⟩, h4⟩
  unfold srcA at hs
  split at hs
  · obtain ⟨_, _, rfl, _⟩ := hv
    split at hs <;> cases hs
    rfl
  · cases hs; simp only [VRel] at hv; subst hv; rfl
  · split at hs
    · rename_i k hk
      split at hs <;> cases hs
      obtain ⟨_, _, _, h7⟩ := hv
      obtain ⟨_, _, _, rfl, _⟩ := h7 ((H.dom _).2 (by simp [hk]))
      rfl
    · cases hs
  · split at hs <;> cases hs
    simp only [VRel] at hv; subst hv; rfl
  · cases hs; simp only [VRel] at hv; subst hv; rfl
  · cases hs

theorem drawn_of {M : Mem} (H : HRel X h M) : HRel X h { M with w := M.w.drew } := (H.ext (Ext.drawn M.w (M.w.drawn + 1))).2

/-- No room: a new row. -/
theorem append_grow (H : HRel X h M) {t t2 ty e : TypeId} {es eb : Nat} {ea : Bool} (hd : P.underlying t = some (.slice e)) (he : elI P e = some (es, eb, ea)) (hie : zOk P e es = true)
    {base : Option Addr} {n cap m : Nat} {x : Value} {old new : List AV} {lo ln : List Value} (hs : Src P es t2 x m ln M.w) (hln : VRels M true new ln)
    (ho : (Builtin.firstCells es n (.slice base n cap)).run P M.w.drew = .ok lo.toArray M.w.drew) (hlo : VRels M true old lo) (holen : old.length = n * es)
    (hg : cap < n + m) (hb : (n + m) * eb ≤ 2 ^ 46) (h62 : n + m ≤ 2 ^ 62) :
    ∃ M' v, (Builtin.append_ #[t, t2] ty #[.slice base n cap, x]).run P M.w = .ok v M'.w ∧ M.le M' ∧ M'.O = M.O ∧ HRel X (h.add ⟨old ++ new, false⟩) M' ∧ VRel M' true (.sl h.nt 0 es (n + m)) v := by
  obtain ⟨ie, hie, hze⟩ : ∃ ie, tyI P e = some ie ∧ ie.zero.length = es := by
    unfold zOk at hie
    split at hie
    · rename_i ie h; exact ⟨ie, h, by simpa using hie⟩
    · cases hie
  obtain ⟨inf, d, h1, h2, h3, h4, h5⟩ := elI_spec he
  obtain ⟨inf', d', z, k1, k2, k3, _, _, _, k7, _⟩ := tyI_spec hie
  have hzs : z.cells.size = es := by rw [← hze, k7]; simp
  have : inf' = inf := by rw [h1] at k1; cases k1; rfl
  subst this
  subst h3 h4
  have hfit : Builtin.nextslicecap (n + m) cap * inf'.bytes ≤ 281474976710656 := by
    have := Nat.mul_le_mul_right inf'.bytes (nextslicecap_le hg)
    rw [Nat.mul_assoc] at this
    omega
  have hr := run_append_grow_src (P := P) M.w t t2 ty e inf' z hd h1 k3 base n cap lo ho x m ln hs hg (by omega) hfit
  have hE := H.ext (Ext.drawn M.w (M.w.drawn + 1))
  have hcap := grownCap_ge M.w (n + m) cap e
  refine ⟨Mem.add { M with w := M.w.drew } (.cells ((lo ++ ln).toArray ++ Builtin.zeroCells z.cells (grownCap M.w (n + m) cap e - (n + m))) e (0, 0)), _, hr, ?_, rfl, ?_, ?_⟩
  · exact hE.1.trans (hE.2.add_le _)
  · refine hE.2.add (k := ⟨old ++ new, false⟩) ?_ (fun hf => by cases hf)
    have hE1 : M.le { M with w := M.w.drew } := hE.1
    have := VPreR.append (VRels.append (VRels.mono hE1 _ _ hlo) (VRels.mono hE1 _ _ hln)) (ds := []) (m := (Builtin.zeroCells z.cells (grownCap M.w (n + m) cap e - (n + m))).toList) trivial
    simpa using this
  · rw [← H.n]
    refine slice_new { M with w := M.w.drew } _ e inf'.size (n + m) _ hcap ?_
    have e1 := hlo.length
    have e2 := hs.newsLen
    simp only [Array.size_append, List.size_toArray, List.length_append, size_zeroCells, hzs]
    rw [e1, holen, e2, Nat.sub_mul, Nat.add_mul]
    have := Nat.mul_le_mul_right inf'.size hcap
    rw [Nat.add_mul] at this
    omega

/-- There is room: the block goes on under a new number. -/
theorem append_room (H : HRel X h M) {t t2 ty e : TypeId} {es eb : Nat} {ea : Bool} (hd : P.underlying t = some (.slice e)) (he : elI P e = some (es, eb, ea))
    {id : Nat} {k : Blk} (hk : h.bk id = some k) {n cap m : Nat} {x : Value} {new : List AV} {ln : List Value} (hs : Src P es t2 x m ln M.w) (hln : VRels M true new ln)
    {e' : TypeId} {sz : Nat} (hsh : M.w.shape? (M.φ id) = some (e', sz)) (hcp : cap * es ≤ sz) (hn : n * es ≤ k.cs.length) (hroom : n + m ≤ cap) :
    ∃ M' v, (Builtin.append_ #[t, t2] ty #[.slice (some ⟨M.φ id, 0, none⟩) n cap, x]).run P M.w = .ok v M'.w ∧ M.le M' ∧ M'.O = M.O ∧
      HRel X (h.move id ⟨k.cs.take (n * es) ++ new, false⟩) M' ∧ VRel M' true (.sl h.nt 0 es (n + m)) v := by
  obtain ⟨inf, d, h1, h2, h3, h4, h5⟩ := elI_spec he
  subst h3 h4
  have hD : M.D id := (H.dom id).2 (by simp [hk])
  obtain ⟨C, el, hC, hpre, hf⟩ := H.bk id k hk
  have hpl := hpre.length
  simp only [Array.length_toList] at hpl
  have hsz : sz = C.size := by simp [World.shape?, hC] at hsh; exact hsh.2.symm
  have hnl := hs.newsLen
  have hnm : n * inf.size + m * inf.size ≤ cap * inf.size := by rw [← Nat.add_mul]; exact Nat.mul_le_mul_right _ hroom
  have hst := run_storeCells_at P (M.φ id) (n * inf.size) el ln 0 C M.w hC (by omega) hs.one
  simp only [Nat.add_zero] at hst
  have hsz2 : (C.toList.take (n * inf.size) ++ ln ++ C.toList.drop (n * inf.size + ln.length)).toArray.size = C.size := by simp; omega
  have hp2 : VPreR M (k.cs.take (n * inf.size) ++ new) (C.toList.take (n * inf.size) ++ ln ++ C.toList.drop (n * inf.size + ln.length)) := by
    have h1 : VRels M true (k.cs.take (n * inf.size)) (C.toList.take (n * inf.size)) := by
      have := (hpre.take (n * inf.size)).toRels
      rwa [List.length_take, Nat.min_eq_left hn] at this
    have := VPreR.append (VRels.append h1 hln) (ds := []) (m := C.toList.drop (n * inf.size + ln.length)) trivial
    simpa using this
  have R := H.setRow hk hC (C' := (C.toList.take (n * inf.size) ++ ln ++ C.toList.drop (n * inf.size + ln.length)).toArray) hsz2
    (k' := ⟨k.cs.take (n * inf.size) ++ new, false⟩) hp2 (fun hx => by cases hx)
  have R2 := R.2.move (id := id) (k := ⟨k.cs.take (n * inf.size) ++ new, false⟩) (upd_same _ _ _)
  have hmv : HP.move { h with bk := upd h.bk id (some ⟨k.cs.take (n * inf.size) ++ new, false⟩) } id ⟨k.cs.take (n * inf.size) ++ new, false⟩ = h.move id ⟨k.cs.take (n * inf.size) ++ new, false⟩ := by
    unfold HP.move
    congr 1
    funext j
    simp only [upd]
    split
    · rfl
    · split
      · rfl
      · simp
  rw [hmv] at R2
  refine ⟨_, .slice (some ⟨M.φ id, 0, none⟩) (n + m) cap, ?_, R.1.trans R2.1, rfl, R2.2, ?_⟩
  · rcases hs.kind with ⟨e', hk'⟩ | hk' <;>
      simp [Builtin.append_, run_underlying hd, run_underlying hk', sizeOf, typeInfo, h1, hs.len, hroom, hs.cells, Addr.add_lit, hst, Mem.move]
  · rw [← H.n]
    refine ⟨rfl, rfl, Nat.lt_succ_self _, fun _ => ⟨cap, el, C.size, ?_, hroom, ?_, by omega⟩⟩
    · show _ = Value.slice (some ⟨upd M.φ M.n (M.φ id) M.n, 0, none⟩) (n + m) cap
      rw [upd_same]
    · show World.shape? (M.w.setRow _ _) (upd M.φ M.n (M.φ id) M.n) = _
      rw [upd_same, setRow_shape _ _ _ _ _ _ hC hsz2]
      simp [World.shape?, hC]

theorem appendB_sound (H : HRel X h M) {t t2 ty e : TypeId} {es eb : Nat} {ea : Bool} (hd2 : P.underlying t = some (.slice e)) (he : elI P e = some (es, eb, ea)) {a b : AV} {va vb : Value} (ha : VRel M true a va) (hb : VRel M true b vb)
    (hkind : (∃ e', P.underlying t2 = some (.slice e')) ∨ P.underlying t2 = some .string) {c : AV} {h' : HP} (hc : appendB P e es eb h a b = some (c, h')) :
    ∃ M' v, (Builtin.append_ #[t, t2] ty #[va, vb]).run P M.w = .ok v M'.w ∧ M.le M' ∧ M'.O = M.O ∧ HRel X h' M' ∧ VRel M' true c v := by
  unfold appendB at hc
  split at hc
  · rename_i m new hsrc
    split at hc
    · rename_i hcond
      obtain ⟨ln, hS, hln⟩ := srcOf (t2 := t2) H hb hsrc hcond.2 hkind
      split at hc
      · simp only [VRel] at ha
        subst ha
        split at hc
        · rename_i hm
          subst hm
          cases hc
          refine ⟨M, .slice none 0 0, ?_, Mem.le.refl M, rfl, H, rfl⟩
          obtain ⟨inf, d, h1, h2, h3, h4, h5⟩ := elI_spec he
          subst h3
          have h0 := hS.newsLen
          rcases hS.kind with ⟨e', hk'⟩ | hk' <;>
            simp [Builtin.append_, run_underlying hd2, run_underlying hk', sizeOf, typeInfo, h1, hS.len, hS.cells]
        · split at hc
          · rename_i hm hbd
            cases hc
            have := append_grow (ty := ty) H hd2 he hcond.1 (base := none) (n := 0) (cap := 0) hS hln (old := []) (lo := []) rfl rfl (by simp) (by omega) (by simpa using hbd.1) (by simpa using hbd.2)
            simpa using this
          · cases hc
      · rename_i id es' n
        split at hc
        · rename_i k hk
          split at hc
          · rename_i hcc
            obtain ⟨rfl, hn, hbb, h62⟩ := hcc
            cases hc
            have hD : M.D id := (H.dom id).2 (by simp [hk])
            have ha0 := ha
            obtain ⟨_, _, _, h7⟩ := ha
            obtain ⟨cap, e', sz, rfl, hnc, hsh, hcp⟩ := h7 hD
            by_cases hroom : n + m ≤ cap
            · exact append_room H hd2 he hk hS hln hsh (by omega) hn hroom
            · have hsrc2 : srcA es h (.sl id 0 es n) = some (n, k.cs.take (n * es)) := by
                simp only [srcA, hk]
                rw [if_pos ⟨trivial, by omega⟩]
                simp
              obtain ⟨_, hfc⟩ := srcA_sound (P := P) H ha0 hsrc2
              obtain ⟨lo, hlo, hlr⟩ := hfc n (Nat.le_refl _)
              rw [List.take_take, Nat.min_self] at hlr
              obtain ⟨M', v, q1, q2, q3, q4, q5⟩ := append_grow (ty := ty) H hd2 he hcond.1 hS hln (hlo _) hlr (by simp; omega) (by omega) hbb h62
              have hmv : (h.add ⟨k.cs.take (n * es) ++ new, false⟩).drop id = h.move id ⟨k.cs.take (n * es) ++ new, false⟩ := by
                unfold HP.move HP.drop HP.add
                congr 1
                have hne : h.nt ≠ id := by have := H.lt id hD; rw [H.n] at this; omega
                exact upd_comm _ _ _ _ _ hne
              refine ⟨M'.drop id, v, q1, q2.trans (M'.drop_le id), q3, hmv ▸ q4.drop id, VRel.mono (M'.drop_le id) _ _ q5⟩
          · cases hc
        · cases hc
      · cases hc
    · cases hc
  · cases hc

theorem append_sound (H : HRel X h M) {t t2 ty : TypeId} {i i2 : TyI} (hi : tyI P t = some i) (hi2 : tyI P t2 = some i2) {a b : AV} {va vb : Value} (ha : VRel M true a va) (hb : VRel M true b vb) {c : AV} {h' : HP}
    (hc : appendA P i i2 h a b = some (c, h')) : ∃ M' v, (Builtin.append_ #[t, t2] ty #[va, vb]).run P M.w = .ok v M'.w ∧ M.le M' ∧ M'.O = M.O ∧ HRel X h' M' ∧ VRel M' true c v := by
  obtain ⟨d, hd, hd2, hd3⟩ := run_underlyingI M.w hi
  obtain ⟨d2, hq, hq2, hq3⟩ := run_underlyingI M.w hi2
  unfold appendA at hc
  split at hc
  · rename_i e es ea eb e2 es2 ea2 eb2 h1 h2
    obtain ⟨rfl, _⟩ := TD_slice (hq3.symm.trans h2)
    obtain ⟨rfl, he⟩ := TD_slice (hd3.symm.trans h1)
    exact appendB_sound H hd2 he ha hb (.inl ⟨_, hq2⟩) hc
  · rename_i e es ea eb h1 h2
    obtain rfl := TD_str (hq3.symm.trans h2)
    obtain ⟨rfl, he⟩ := TD_slice (hd3.symm.trans h1)
    exact appendB_sound H hd2 he ha hb (.inr hq2) hc
  · cases hc
end Go.Am

/-! 'Am', part 10: make, conversions, operators. -/
namespace Go.Am
variable {P : Program} {X : Ctx} {h : HP} {M : Mem}

/-! ### make -/
def makeA (P : Program) (i : TyI) (h : HP) (l c : AV) : Option (AV × HP) :=
  match i.td, l, c with
  | .slice e es _ eb, .int _ l, .int _ c => match tyI P e with
    | some ie => if ie.zero.length = es ∧ 0 ≤ l ∧ l ≤ c ∧ (eb : Int) * c ≤ 2 ^ 46 ∧ c ≤ 2 ^ 62 then
        some (.sl h.nt 0 es l.toNat, h.add ⟨zerosA ie.zero c.toNat, true⟩) else none
    | none => none
  | _, _, _ => none

theorem wrap_i64 (n : Int) (h0 : 0 ≤ n) (h1 : n ≤ 2 ^ 62) : IntKind.i64.wrap n = n := by
  simp [IntKind.wrap, IntKind.bits, IntKind.signed]
  omega

theorem make_sound (H : HRel X h M) {t : TypeId} {i : TyI} (hi : tyI P t = some i) {a b : AV} {va vb : Value} (ha : VRel M true a va) (hb : VRel M true b vb) {c : AV} {h' : HP}
    (hc : makeA P i h a b = some (c, h')) : ∃ M' v, (Instr.makeSlice t va vb).run P M.w = .ok v M'.w ∧ M.le M' ∧ M'.O = M.O ∧ HRel X h' M' ∧ VRel M' true c v := by
  obtain ⟨d, hd, hd2, hd3⟩ := run_underlyingI M.w hi
  unfold makeA at hc
  split at hc
  · rename_i e es ea eb kl l kc q htd
    obtain ⟨rfl, he⟩ := TD_slice (hd3.symm.trans htd)
    split at hc
    · rename_i ie hie
      split at hc
      · rename_i hcond
        obtain ⟨hz, h0, hle, hbb, h62⟩ := hcond
        cases hc
        simp only [VRel] at ha hb
        subst ha hb
        obtain ⟨inf, d, h1, h2, h3, h4, h5⟩ := elI_spec he
        subst h3 h4
        obtain ⟨z, hzr, hzz⟩ := run_zeroValue M.w hie
        have hzl : z.cells.size = inf.size := by rw [← hz, hzz]; simp
        have hzrel : VRels M true ie.zero z.cells.toList := by rw [hzz]; exact map_cellAV_rel M true _
        have hq : q = (q.toNat : Int) := by omega
        have hll : l = (l.toNat : Int) := by omega
        -- the cells
        obtain ⟨Z, hZ, hZl⟩ : ∃ Z : Array Value, (∀ K : Array Value → Sem Value, (if q.toNat * inf.size = 0 then ((pure #[] : Sem (Array Value)) >>= K) else (zeroValue e >>= fun a => (pure a.cells : Sem (Array Value)) >>= K)).run P M.w = (K Z).run P M.w) ∧
            ((Array.range (q.toNat * inf.size)).map (fun j => Z[j % Z.size]!)).toList = (List.replicate q.toNat z.cells.toList).flatten := by
          by_cases h0 : q.toNat * inf.size = 0
          · refine ⟨#[], fun K => by simp [h0], ?_⟩
            rw [h0]
            rcases Nat.mul_eq_zero.1 h0 with h1 | h1
            · simp [h1]
            · have : z.cells.toList = [] := List.eq_nil_of_length_eq_zero (by rw [Array.length_toList]; omega)
              simp [this]
          · exact ⟨z.cells, fun K => by simp [h0, hzr], zeros_list z.cells q.toNat inf.size hzl h0⟩
        have hrel : VRels M true (zerosA ie.zero q.toNat) ((Array.range (q.toNat * inf.size)).map (fun j => Z[j % Z.size]!)).toList := by
          rw [hZl]; exact zeros_rel hzrel _
        refine ⟨M.add (.cells ((Array.range (q.toNat * inf.size)).map (fun j => Z[j % Z.size]!)) e (0, 0)), .slice (some ⟨M.w.heap.size, 0, none⟩) l.toNat q.toNat, ?_, H.add_le _, rfl,
          H.add (k := ⟨zerosA ie.zero q.toNat, true⟩) hrel.toPre (fun _ => by have := hrel.length; simpa using this), ?_⟩
        · have e1 : IntKind.i64.wrap l = l := wrap_i64 l h0 (by omega)
          have e2 : IntKind.i64.wrap q = q := wrap_i64 q (by omega) h62
          have e3 : ¬ (q < 0) := by omega
          have e4 : ¬ ((inf.bytes : Int) * q > 2 ^ 48) := by omega
          have e5 : ¬ (l < 0) := by omega
          have e6 : ¬ (l > q) := by omega
          unfold Instr.makeSlice
          simp only [Sem.run_bind, hd, Result.andThen_ok, asInt, asIntOf, Sem.run_pure, typeInfo, run_program, h1, e1, e2, e3, e4, e5, e6, decide_false, Bool.or_self, Bool.false_eq_true, if_false, run_askRoom, run_sizeOf_el he]
          refine (hZ fun zero => do let a ← newRow e ((Array.range (q.toNat * inf.size)).map (zero[· % zero.size]!)); pure (.slice (some a) l.toNat q.toNat)).trans ?_
          rfl
        · rw [← H.n]
          exact slice_new M _ e inf.size l.toNat q.toNat (by omega) (by simp)
      · cases hc
    · cases hc
  · cases hc

/-! ### Conversions -/
def isU8 : AV → Bool
  | .int .u8 _ => true
  | _ => false
def u8of : AV → UInt8
  | .int _ n => UInt8.ofNat n.toNat
  | _ => 0
def strA (cs : List AV) : ByteArray := ⟨(cs.map u8of).toArray⟩

def u8T (P : Program) (e : TypeId) : Bool :=
  match tyI P e with
  | some i => (match i.td with | .int .u8 => true | _ => false)
  | none => false
theorem u8T_spec {e : TypeId} (h : u8T P e = true) : P.underlying e = some (.int .u8) := by
  unfold u8T at h
  split at h
  · rename_i i hi
    obtain ⟨inf, d, z, h1, h2, h3, h4, h5, h6, h7, h8⟩ := tyI_spec hi
    split at h
    · rename_i htd
      rw [h2, TD_int (h8.symm.trans htd)]
    · cases h
  · cases h

def convA (P : Program) (i i2 : TyI) (h : HP) (x : AV) : Option AV :=
  match x with
  | .int _ n => match i2.td with
    | .int k => some (.int k (k.wrap n))
    | _ => none
  | .str s => match i.td, i2.td with
    | .str, .str => some (.str s)
    | .str, .slice e _ _ _ => if u8T P e = true then some (.ro s.size (s.data.toList.map byteAV)) else none
    | _, _ => none
  | x => match i.td, i2.td with
    | .slice e es _ _, .str => if u8T P e = true ∧ es = 1 then (match srcA 1 h x with
      | some (_, cs) => if cs.all isU8 = true then some (.str (strA cs)) else none
      | none => none) else none
    | _, _ => none

theorem u8_list {M : Mem} {r : Bool} : ∀ {cs : List AV} {l : List Value}, VRels M r cs l → cs.all isU8 = true → ∃ ns : List Int, l = ns.map (Value.int .u8) ∧ (ns.map fun n => UInt8.ofNat n.toNat) = cs.map u8of
  | [], _, h, _ => by cases h; exact ⟨[], rfl, rfl⟩
  | c :: cs, _, ⟨v, vs, e, H, K⟩, ha => by
    subst e
    simp only [List.all_cons, Bool.and_eq_true] at ha
    obtain ⟨ns, rfl, h2⟩ := u8_list K ha.2
    cases c <;> simp only [isU8, Bool.false_eq_true, false_and] at ha
    rename_i k n
    cases k <;> simp at ha
    simp only [VRel] at H
    subst H
    exact ⟨n :: ns, rfl, by simp [u8of, h2]⟩

/-- '[]byte("..")' of a constant: a new slice that is marked; the block is nobody's to write any more. -/
def convOwn (P : Program) (s d : TypeId) (h : HP) (x : AV) : Option (AV × HP) :=
  if s = d then (match tyI P s, x with
    | some i, .sl id 0 1 n => match i.td, h.bk id with
      | .slice e _ _ _, some k => if u8T P e = true ∧ n ≤ k.cs.length ∧ k.cs.all isU8 = true then some (.ro n (k.cs.take n), h.drop id) else none
      | _, _ => none
    | _, _ => none) else none
theorem run_freeze_shape {w : World} {b : Nat} {C : Array Value} {e : TypeId} {fz : Nat × Nat} (hb : w.heap[b]? = some (.cells C e fz)) :
    ∃ w' fz', (markStringish ⟨b, 0, none⟩).run P w = .ok () w' ∧ w'.os = w.os ∧ w'.tape = w.tape ∧ w'.output = w.output ∧ w'.heap.size = w.heap.size ∧ w'.heap[b]? = some (.cells C e fz') ∧ ∀ k, k ≠ b → w'.heap[k]? = w.heap[k]? := by
  have hsh : w.shape? b = some (e, C.size) := by simp [World.shape?, hb]
  have hlt := block_lt hb
  refine ⟨w.freeze ⟨b, C.size, none⟩ 1, if (fz.1 == fz.2) = true then (C.size, C.size + 1) else (min fz.1 C.size, max fz.2 (C.size + 1)), by simp [markStringish, hsh], ?_, ?_, ?_, ?_, ?_, ?_⟩
  · simp [World.freeze]
  · simp [World.freeze]
  · simp [World.freeze]
  · simp [World.freeze]
  · have hg : w.heap[b] = .cells C e fz := by rw [Array.getElem?_eq_getElem hlt] at hb; exact Option.some.inj hb
    simp only [World.freeze]
    rw [if_neg (by decide)]
    simp only
    rw [Array.getElem?_eq_getElem (by simpa using hlt), Array.getElem_modify_self, hg]
  · intro k hk
    simp only [World.freeze]
    rw [if_neg (by decide)]
    simp only [Array.getElem?_modify]
    rw [if_neg (by omega)]
theorem u8_noRel {M M' : Mem} {r : Bool} {cs : List AV} {l : List Value} (ha : cs.all isU8 = true) (h : VPreR M cs l) : VPre M' cs l := by
  induction cs generalizing l with
  | nil => simp [VPre]
  | cons c cs ih =>
    obtain ⟨v, vs, rfl, h1, h2⟩ := h
    simp only [List.all_cons, Bool.and_eq_true] at ha
    cases c <;> simp only [isU8, Bool.false_eq_true, false_and] at ha
    exact ⟨v, vs, rfl, h1, ih ha.2 h2⟩
theorem convOwn_sound (H : HRel X h M) {t t2 : TypeId} {a : AV} {va : Value} (ha : VRel M true a va) {c : AV} {h' : HP} (hc : convOwn P t t2 h a = some (c, h')) :
    ∃ M' v, (convert t t2 va).run P M.w = .ok v M'.w ∧ M.le M' ∧ M'.O = M.O ∧ HRel X h' M' ∧ VRel M' true c v := by
  unfold convOwn at hc
  split at hc
  · rename_i htt
    subst htt
    split at hc
    · rename_i i id n hi
      split at hc
      · rename_i e es ea eb k htd hk
        split at hc
        · rename_i hcc
          obtain ⟨hu, hn, hall⟩ := hcc
          cases hc
          obtain ⟨d, hd, hd2, hd3⟩ := run_underlyingI M.w hi
          obtain ⟨rfl, he⟩ := TD_slice (hd3.symm.trans htd)
          have hD : M.D id := (H.dom id).2 (by simp [hk])
          obtain ⟨_, _, _, h7⟩ := ha
          obtain ⟨cap, e', sz, rfl, hnc, hsh, hcp⟩ := h7 hD
          obtain ⟨C, el, hb, hpre, hf⟩ := H.bk id k hk
          obtain ⟨w', fz', q1, q2, q3, q4, q5, q6, q7⟩ := run_freeze_shape (P := P) hb
          obtain ⟨hle, HR⟩ := H.giveUp hk q2 q3 q4 q5 q7
          refine ⟨{ M.drop id with w := w' }, _, ?_, hle, rfl, HR, ⟨some ⟨M.φ id, 0, none⟩, cap, rfl, hnc, .inr ⟨M.φ id, 0, C, el, fz', rfl, q6, ⟨fun j hj he => hj.2 (H.inj j id hj.1 hD he), (H.own id hD).2⟩, ?_⟩⟩⟩
          · simp [convert, hd, run_underlying (u8T_spec hu), q1]
          · exact VPre.take (u8_noRel (r := true) hall (by simpa using hpre)) _
        · cases hc
      · cases hc
    · cases hc
  · cases hc
theorem drawn_ext (w : World) : Ext w w.drew := Ext.drawn w (w.drawn + 1)

theorem conv_sound (H : HRel X h M) {t t2 : TypeId} {i i2 : TyI} (hi : tyI P t = some i) (hi2 : tyI P t2 = some i2) {a : AV} {va : Value} (ha : VRel M true a va) {c : AV}
    (hc : convA P i i2 h a = some c) : ∃ M' v, (convert t t2 va).run P M.w = .ok v M'.w ∧ M.le M' ∧ M'.O = M.O ∧ HRel X h M' ∧ VRel M' true c v := by
  obtain ⟨d, hd, hd2, hd3⟩ := run_underlyingI M.w hi
  obtain ⟨d2, hq, hq2, hq3⟩ := run_underlyingI M.w hi2
  unfold convA at hc
  split at hc
  · rename_i k n
    split at hc
    · rename_i k2 htd
      obtain rfl := TD_int (hq3.symm.trans htd)
      cases hc
      simp only [VRel] at ha
      subst ha
      refine ⟨M, .int k2 (k2.wrap n), ?_, Mem.le.refl M, rfl, H, rfl⟩
      simp [convert, hd, hq, Conv.intToInt]
    · cases hc
  · rename_i s
    split at hc
    · rename_i h1 h2
      obtain rfl := TD_str (hd3.symm.trans h1)
      obtain rfl := TD_str (hq3.symm.trans h2)
      cases hc
      simp only [VRel] at ha
      subst ha
      refine ⟨M, .string s, ?_, Mem.le.refl M, rfl, H, rfl⟩
      simp [convert, hd, hq]
    · rename_i e es ea eb h1 h2
      obtain rfl := TD_str (hd3.symm.trans h1)
      obtain ⟨rfl, he⟩ := TD_slice (hq3.symm.trans h2)
      split at hc
      · rename_i hu
        cases hc
        simp only [VRel] at ha
        subst ha
        have hr := Lib.run_convert_string_bytes (P := P) M.w t t2 e s hd2 hq2 (u8T_spec hu)
        have hx : Ext M.w (Lib.bytesWorld M.w e s) := ⟨rfl, rfl, rfl, by rw [Lib.bytesWorld_size]; omega, fun k hk => Lib.bytesWorld_at_old M.w e s k hk⟩
        have HE := H.ext hx
        have hcap := grownCap_ge M.w s.size 0 e
        refine ⟨_, _, hr, HE.1, rfl, HE.2, ⟨some ⟨M.w.heap.size, 0, none⟩, grownCap M.w s.size 0 e, rfl, hcap, .inr ⟨M.w.heap.size, 0, _, _, _, rfl, Lib.bytesWorld_at_new M.w e s, ⟨fun id hD => ?_, fun hO => ?_⟩, ?_⟩⟩⟩
        · have := H.φ_lt hD
          show M.φ id ≠ _
          omega
        · have := H.old _ hO
          have := H.kept.size
          omega
        · refine VPre.of_get fun j c hj => ?_
          rw [List.getElem?_map] at hj
          cases hb : s.data.toList[j]? with
          | none => simp [hb] at hj
          | some b =>
            simp only [hb, Option.map_some, Option.some.injEq] at hj
            subst hj
            refine ⟨.int .u8 b.toNat, ?_, rfl⟩
            have hjl : j < s.data.size := by
              have := (List.getElem?_eq_some_iff.1 hb).1
              simpa using this
            have hb2 : s.data[j] = b := by
              have := (List.getElem?_eq_some_iff.1 hb).2
              simpa using this
            simp only [List.drop_zero, Lib.bytesCells, Array.toList_append, Array.toList_map]
            rw [List.getElem?_append_left (by simpa using hjl), List.getElem?_map, hb]
            rfl
      · cases hc
    · cases hc
  · split at hc
    · rename_i e es ea eb h1 h2
      obtain ⟨rfl, he⟩ := TD_slice (hd3.symm.trans h1)
      obtain rfl := TD_str (hq3.symm.trans h2)
      split at hc
      · rename_i hu
        split at hc
        · rename_i n cs hs
          split at hc
          · rename_i hall
            cases hc
            have hlen := srcA_length hs
            obtain ⟨_, hf⟩ := srcA_sound (P := P) H ha hs
            obtain ⟨l, hl, hrel⟩ := hf n (Nat.le_refl _)
            rw [List.take_of_length_le (by omega)] at hrel
            obtain ⟨ns, rfl, hns⟩ := u8_list hrel hall
            have hl := hl M.w.drawn
            have hsl : ∃ base cap, va = .slice base n cap ∧ (base = none → cs = []) := by
              unfold srcA at hs
              split at hs
              · split at hs <;> cases hs
                obtain ⟨base, cap, rfl, _, hcs⟩ := ha
                refine ⟨base, cap, rfl, fun hb => ?_⟩
                rcases hcs with h | ⟨_, _, _, _, _, h, _⟩
                · exact h
                · rw [hb] at h; cases h
              · cases hs; simp only [VRel] at ha; subst ha; exact ⟨none, 0, rfl, fun _ => rfl⟩
              · split at hs
                · rename_i k hk
                  split at hs <;> cases hs
                  obtain ⟨_, _, _, h7⟩ := ha
                  obtain ⟨cap, _, _, rfl, _⟩ := h7 ((H.dom _).2 (by simp [hk]))
                  exact ⟨_, cap, rfl, fun hb => by cases hb⟩
                · cases hs
              · rename_i hne
                exact (hne _ rfl).elim
              · rename_i base cap _ _
                cases hs; simp only [VRel] at ha; subst ha; exact ⟨base, cap, rfl, fun _ => rfl⟩
              · cases hs
            obtain ⟨base, cap, rfl, hb0⟩ := hsl
            refine ⟨M, .string (strA cs), ?_, Mem.le.refl M, rfl, H, rfl⟩
            cases base with
            | none =>
              have := hb0 rfl
              subst this
              rw [run_convert_bytes_string M.w t t2 e _ _ _ hd2 (u8T_spec hu.1) hq2]
              rfl
            | some ad =>
              have hl2 : (loadCells ad n).run P M.w = .ok (ns.map (Value.int .u8)).toArray M.w := by
                simpa [Builtin.firstCells] using hl
              rw [run_convert_bytes_string M.w t t2 e _ _ _ hd2 (u8T_spec hu.1) hq2, run_bytesToString M.w ad n cap ns hl2, foldl_push_bytes, hns]
              simp [strA, ByteArray.empty, ByteArray.emptyWithCapacity]
              rfl
          · cases hc
        · cases hc
      · cases hc
    · cases hc

end Go.Am

/-! 'Am', part 11: operators. -/
namespace Go.Am
variable {P : Program} {X : Ctx} {h : HP} {M : Mem}

/-! ### '==' of aggregates, cell by cell -/
def eqCell : AV → AV → Option Bool
  | .int k a, .int k' b => if k = k' then some (a == b) else none
  | .bool a, .bool b => some (a == b)
  | .str a, .str b => some (a == b)
  | _, _ => none
def eqCells : List AV → List AV → Option Bool
  | [], [] => some true
  | a :: as, b :: bs => match eqCell a b, eqCells as bs with
    | some x, some y => some (x && y)
    | _, _ => none
  | _, _ => none

theorem eqCells_nth : ∀ {as bs : List AV} {r : Bool}, eqCells as bs = some r → as.length = bs.length ∧ (∀ o n, ∃ r', eqCells ((as.drop o).take n) ((bs.drop o).take n) = some r')
  | [], [], r, h => ⟨rfl, fun o n => ⟨true, by simp [eqCells]⟩⟩
  | [], _ :: _, _, h => by simp [eqCells] at h
  | _ :: _, [], _, h => by simp [eqCells] at h
  | a :: as, b :: bs, r, h => by
    unfold eqCells at h
    split at h
    · rename_i x y h1 h2
      obtain ⟨hl, hp⟩ := eqCells_nth h2
      refine ⟨by simp [hl], fun o n => ?_⟩
      cases o with
      | zero =>
        cases n with
        | zero => exact ⟨true, by simp [eqCells]⟩
        | succ n =>
          obtain ⟨r', hr'⟩ := hp 0 n
          simp only [List.drop_zero] at hr' ⊢
          exact ⟨x && r', by simp [eqCells, h1, hr']⟩
      | succ o => simpa using hp o n
    · cases h

theorem eqCells_append {as bs cs ds : List AV} {x y : Bool} (h : eqCells as bs = some x) (k : eqCells cs ds = some y) : eqCells (as ++ cs) (bs ++ ds) = some (x && y) := by
  induction as generalizing bs x with
  | nil =>
    cases bs with
    | nil => simp [eqCells] at h; subst h; simpa using k
    | cons => simp [eqCells] at h
  | cons a as ih =>
    cases bs with
    | nil => simp [eqCells] at h
    | cons b bs =>
      unfold eqCells at h
      split at h
      · rename_i x' y' h1 h2
        cases h
        simp [eqCells, h1, ih h2, Bool.and_assoc]
      · cases h

theorem eqCells_split {as bs : List AV} {r : Bool} (h : eqCells as bs = some r) (n : Nat) :
    ∃ x y, eqCells (as.take n) (bs.take n) = some x ∧ eqCells (as.drop n) (bs.drop n) = some y ∧ r = (x && y) := by
  obtain ⟨hl, hp⟩ := eqCells_nth h
  obtain ⟨x, hx⟩ := hp 0 n
  obtain ⟨y, hy⟩ := hp n as.length
  simp only [List.drop_zero] at hx
  rw [List.take_of_length_le (by simp), List.take_of_length_le (by simp; omega)] at hy
  refine ⟨x, y, hx, hy, ?_⟩
  have := eqCells_append hx hy
  rw [List.take_append_drop, List.take_append_drop, h] at this
  simpa using this

/-- What kinds of cells a type has, where '==' is '==' cell by cell. -/
inductive LK where
  | b | s
  | i (k : IntKind)
def kindOk : LK → AV → Bool
  | .b, .bool _ => true
  | .s, .str _ => true
  | .i k, .int k' _ => decide (k = k')
  | _, _ => false
def kindsOk : List LK → List AV → Bool
  | [], [] => true
  | k :: ks, a :: as => kindOk k a && kindsOk ks as
  | _, _ => false
def kindsFields (P : Program) (lk : TypeId → Option (List LK)) : Nat → List Field → Option (List LK)
  | _, [] => some []
  | off, f :: fs => match elI P f.type, lk f.type with
    | some (s, _, _), some ks => if f.name ≠ "_" ∧ f.offset = off ∧ ks.length = s then (kindsFields P lk (off + s) fs).map (ks ++ ·) else none
    | _, _ => none
def leafKinds (P : Program) : Nat → TypeId → Option (List LK)
  | 0, _ => none
  | n + 1, t => match P.underlying t with
    | some .bool => some [.b]
    | some .string => some [.s]
    | some (.int k) => some [.i k]
    | some (.array len e) => match elI P e, leafKinds P n e with
      | some (s, _, _), some ks => if ks.length = s then some ((List.replicate len ks).flatten) else none
      | _, _ => none
    | some (.struct fs) => if P.stoodInHeld t = true then none else kindsFields P (leafKinds P n) 0 fs.toList
    | _ => none

theorem kindsOk_length : ∀ {ks : List LK} {as : List AV}, kindsOk ks as = true → as.length = ks.length
  | [], [], _ => rfl
  | [], _ :: _, h => by simp [kindsOk] at h
  | _ :: _, [], h => by simp [kindsOk] at h
  | k :: ks, a :: as, h => by simp only [kindsOk, Bool.and_eq_true] at h; simp [kindsOk_length h.2]
theorem kindsOk_append : ∀ {ks ls : List LK} {as : List AV}, kindsOk (ks ++ ls) as = true → kindsOk ks (as.take ks.length) = true ∧ kindsOk ls (as.drop ks.length) = true
  | [], ls, as, h => by simpa [kindsOk] using h
  | k :: ks, ls, [], h => by simp [kindsOk] at h
  | k :: ks, ls, a :: as, h => by
    simp only [List.cons_append, kindsOk, Bool.and_eq_true] at h
    have := kindsOk_append h.2
    simp [kindsOk, h.1, this]

def valOf (a : Bool) (xs : List Value) : Value := if a then .agg ⟨xs⟩ else xs.getD 0 undef

def EqAt (P : Program) (n : Nat) (t : TypeId) (a : Bool) (ks : List LK) : Prop :=
  ∀ (M : Mem) (as bs : List AV) (xs ys : List Value) (r : Bool) (w : World) (d : Nat), n ≤ d → kindsOk ks as = true → kindsOk ks bs = true → VRels M true as xs → VRels M true bs ys → eqCells as bs = some r →
    (Op.equalIn d t (valOf a xs) (valOf a ys)).run P w = .ok r w

theorem run_part {e : TypeId} {s b : Nat} {a : Bool} (he : elI P e = some (s, b, a)) (w : World) (xs : List Value) (o : Nat) (hs : a = true ∨ s = 1) (ho : o + s ≤ xs.length) :
    (part e ⟨xs⟩ o).run P w = .ok (valOf a ((xs.drop o).take s)) w := by
  cases a
  · have hs : s = 1 := hs.resolve_left (by simp)
    subst hs
    simp only [part, Sem.run_bind, run_isAgg_el he, Result.andThen_ok, Bool.false_eq_true, if_false]
    have h1 : (⟨xs⟩ : Array Value)[o]? = some xs[o] := by simp
    have h2 : valOf false ((xs.drop o).take 1) = xs[o] := by
      simp [valOf, List.getD, List.getElem?_drop]
      rw [List.getElem?_eq_getElem (by omega)]; rfl
    rw [h1, h2]
    rfl
  · have : (⟨xs⟩ : Array Value).extract o (o + s) = ⟨(xs.drop o).take s⟩ := by
      apply Array.ext'
      simp
    simp only [part, Sem.run_bind, run_isAgg_el he, run_sizeOf_el he, Result.andThen_ok, if_true, this, valOf]
    rfl

/-- The leaves of size 1 or an aggregate. -/
theorem leafKinds_agg {n : Nat} {t : TypeId} {ks : List LK} {s b : Nat} {a : Bool} (h : leafKinds P n t = some ks) (he : elI P t = some (s, b, a)) : a = true ∨ ks.length = 1 := by
  obtain ⟨i, d, h1, h2, h3, h4, h5⟩ := elI_spec he
  cases n with
  | zero => simp [leafKinds] at h
  | succ n =>
    unfold leafKinds at h
    rw [h2] at h
    cases d <;> simp only at h <;> first | (cases h; done) | (left; rw [← h5]; rfl) | (cases h; right; rfl)

theorem eq_fields {n d : Nat} (hnd : n ≤ d) (ih : ∀ t s b a ks, elI P t = some (s, b, a) → leafKinds P n t = some ks → EqAt P n t a ks) (M : Mem) (w : World) (xs ys : List Value) :
    ∀ (fs : List Field) (off : Nat) (ks : List LK) (as bs : List AV) (r : Bool), kindsFields P (leafKinds P n) off fs = some ks → kindsOk ks as = true → kindsOk ks bs = true →
      VRels M true as (xs.drop off) → VRels M true bs (ys.drop off) → off ≤ xs.length → off ≤ ys.length → eqCells as bs = some r → (Op.eqFields d ⟨xs⟩ ⟨ys⟩ fs).run P w = .ok r w
  | [], off, ks, as, bs, r, hk, ha, hb, hx, hy, hox, hoy, he => by
    cases hk
    cases as with
    | nil =>
      cases bs with
      | nil => simp [eqCells] at he; subst he; rfl
      | cons => simp [eqCells] at he
    | cons => simp [kindsOk] at ha
  | f :: fs, off, ks, as, bs, r, hk, ha, hb, hx, hy, hox, hoy, he => by
    unfold kindsFields at hk
    split at hk
    · rename_i s b a kf h1 h2
      split at hk
      · rename_i hc
        obtain ⟨hn, ho, hs⟩ := hc
        cases hr : kindsFields P (leafKinds P n) (off + s) fs with
        | none => simp [hr] at hk
        | some kr =>
          simp only [hr, Option.map_some, Option.some.injEq] at hk
          subst hk
          obtain ⟨ha1, ha2⟩ := kindsOk_append ha
          obtain ⟨hb1, hb2⟩ := kindsOk_append hb
          obtain ⟨x, y, e1, e2, rfl⟩ := eqCells_split he kf.length
          have hla := kindsOk_length ha
          have hlb := kindsOk_length hb
          have hxl := hx.length
          have hyl := hy.length
          simp only [List.length_append, List.length_drop] at hla hlb hxl hyl
          have hsz := leafKinds_agg h2 h1
          rw [hs] at hsz ha1 ha2 hb1 hb2 e1 e2
          have p1 := run_part h1 w xs f.offset hsz (by omega)
          have p2 := run_part h1 w ys f.offset hsz (by omega)
          have hq := ih f.type s b a kf h1 h2 M _ _ _ _ x w d hnd ha1 hb1 (hx.take s) (hy.take s) e1
          rw [ho] at p1 p2
          unfold Op.eqFields
          rw [if_pos hn]
          simp only [Sem.run_bind, ho, p1, p2, Result.andThen_ok, hq]
          cases x
          · simp
          · simp only [Bool.not_true, Bool.false_eq_true, if_false, Bool.true_and]
            refine eq_fields hnd ih M w xs ys fs (off + s) kr _ _ y hr ha2 hb2 ?_ ?_ (by omega) (by omega) e2
            · have := hx.drop s; rwa [List.drop_drop] at this
            · have := hy.drop s; rwa [List.drop_drop] at this
      · cases hk
    · cases hk

/-- '==' of the elements of two arrays from place i on. -/
def eqElems (d : Nat) (e : TypeId) (n : Nat) (xs ys : Array Value) : List Nat → Sem Bool
  | [] => pure true
  | i :: is => do
    let a ← part e xs (i * n)
    let b ← part e ys (i * n)
    let r ← Op.equalIn d e a b
    if (!r) = true then pure false else eqElems d e n xs ys is

theorem run_equalIn_array (w : World) (d : Nat) (t e : TypeId) (len n : Nat) (xs ys : Array Value) (ht : P.underlying t = some (.array len e)) (hn : ∀ w, (sizeOf e).run P w = .ok n w) :
    (Op.equalIn (d + 1) t (.agg xs) (.agg ys)).run P w = (eqElems d e n xs ys (List.range' 0 len)).run P w := by
  simp only [Op.equalIn, Sem.run_bind, run_underlying ht, Result.andThen_ok, hn]
  rw [Std.Legacy.Range.forIn_eq_forIn_range']
  simp only [Std.Legacy.Range.size, Nat.sub_zero, Nat.add_sub_cancel, Nat.div_one]
  generalize List.range' 0 len = l
  clear ht
  induction l generalizing w with
  | nil => simp [eqElems]
  | cons i l ih =>
    simp only [List.forIn_cons, eqElems, Sem.run_bind]
    generalize (part e xs (i * n)).run P w = r1
    cases r1 with
    | ok a w1 =>
      simp only [Result.andThen_ok]
      generalize (part e ys (i * n)).run P w1 = r2
      cases r2 with
      | ok b w2 =>
        simp only [Result.andThen_ok]
        generalize (Op.equalIn d e a b).run P w2 = r3
        cases r3 with
        | ok r w3 =>
          cases r
          · simp only [Result.andThen_ok, Bool.not_false, if_true, Sem.run_pure]
          · simp only [Result.andThen_ok, Bool.not_true, Bool.false_eq_true, if_false, Sem.run_pure]
            exact ih w3
        | halt x w3 => simp [Result.andThen]
      | halt x w2 => simp [Result.andThen]
    | halt x w1 => simp [Result.andThen]

theorem eq_elems {n d : Nat} (hnd : n ≤ d) {e : TypeId} {s b : Nat} {a : Bool} {kf : List LK} (h1 : elI P e = some (s, b, a)) (h2 : leafKinds P n e = some kf) (hs : kf.length = s) (ih : EqAt P n e a kf) (M : Mem) (w : World) (xs ys : List Value) :
    ∀ (len i : Nat) (as bs : List AV) (r : Bool), kindsOk ((List.replicate len kf).flatten) as = true → kindsOk ((List.replicate len kf).flatten) bs = true →
      VRels M true as (xs.drop (i * s)) → VRels M true bs (ys.drop (i * s)) → eqCells as bs = some r → (eqElems d e s ⟨xs⟩ ⟨ys⟩ (List.range' i len)).run P w = .ok r w
  | 0, i, as, bs, r, ha, hb, hx, hy, he => by
    cases as with
    | nil =>
      cases bs with
      | nil => simp [eqCells] at he; subst he; rfl
      | cons => simp [eqCells] at he
    | cons => simp [kindsOk] at ha
  | len + 1, i, as, bs, r, ha, hb, hx, hy, he => by
    rw [List.replicate_succ, List.flatten_cons] at ha hb
    obtain ⟨ha1, ha2⟩ := kindsOk_append ha
    obtain ⟨hb1, hb2⟩ := kindsOk_append hb
    obtain ⟨x, y, e1, e2, rfl⟩ := eqCells_split he kf.length
    have hla := kindsOk_length ha
    have hlb := kindsOk_length hb
    have hxl := hx.length
    have hyl := hy.length
    simp only [List.length_append, List.length_drop] at hla hlb hxl hyl
    have hsz := leafKinds_agg h2 h1
    rw [hs] at hsz ha1 ha2 hb1 hb2 e1 e2 hla hlb
    have hpos : s ≠ 0 → i * s + s ≤ xs.length ∧ i * s + s ≤ ys.length := fun h => by omega
    by_cases h0 : s = 0
    · -- elements without cells
      have hat : a = true := hsz.resolve_right (by omega)
      subst hat
      have q1 : ∀ zs : List Value, (part e ⟨zs⟩ (i * s)).run P w = .ok (.agg ⟨[]⟩) w := fun zs => by
        have : (⟨zs⟩ : Array Value).extract (i * s) (i * s + s) = ⟨[]⟩ := by apply Array.ext'; simp [h0]
        simp only [part, Sem.run_bind, run_isAgg_el h1, run_sizeOf_el h1, Result.andThen_ok, if_true, this]
        rfl
      have hq := ih M _ _ [] [] x w d hnd ha1 hb1 (by rw [h0]; simp [VRels]) (by rw [h0]; simp [VRels]) e1
      simp only [List.range'_succ, eqElems, Sem.run_bind, q1, Result.andThen_ok]
      simp only [valOf, if_true] at hq
      rw [hq]
      cases x
      · simp
      · simp only [Result.andThen_ok, Bool.not_true, Bool.false_eq_true, if_false, Bool.true_and]
        refine eq_elems hnd h1 h2 hs ih M w xs ys len (i + 1) _ _ y ha2 hb2 ?_ ?_ e2
        · have := hx.drop s; rw [List.drop_drop] at this; rwa [Nat.succ_mul]
        · have := hy.drop s; rw [List.drop_drop] at this; rwa [Nat.succ_mul]
    · obtain ⟨hpx, hpy⟩ := hpos h0
      have p1 := run_part h1 w xs (i * s) hsz hpx
      have p2 := run_part h1 w ys (i * s) hsz hpy
      have hq := ih M _ _ _ _ x w d hnd ha1 hb1 (hx.take s) (hy.take s) e1
      simp only [List.range'_succ, eqElems, Sem.run_bind, p1, p2, Result.andThen_ok, hq]
      cases x
      · simp
      · simp only [Bool.not_true, Bool.false_eq_true, if_false, Bool.true_and]
        refine eq_elems hnd h1 h2 hs ih M w xs ys len (i + 1) _ _ y ha2 hb2 ?_ ?_ e2
        · have := hx.drop s; rw [List.drop_drop] at this; rwa [Nat.succ_mul]
        · have := hy.drop s; rw [List.drop_drop] at this; rwa [Nat.succ_mul]

theorem leaf1 {ks : LK} {as : List AV} {xs : List Value} {M : Mem} (h : kindsOk [ks] as = true) (hr : VRels M true as xs) : ∃ a x, as = [a] ∧ xs = [x] ∧ kindOk ks a = true ∧ VRel M true a x := by
  cases as with
  | nil => simp [kindsOk] at h
  | cons a as =>
    cases as with
    | nil =>
      obtain ⟨x, l, rfl, h1, h2⟩ := hr
      cases h2
      exact ⟨a, x, rfl, rfl, by simpa [kindsOk] using h, h1⟩
    | cons => simp [kindsOk] at h

theorem eqAt : ∀ (n : Nat) (t : TypeId) (s b : Nat) (a : Bool) (ks : List LK), elI P t = some (s, b, a) → leafKinds P n t = some ks → EqAt P n t a ks
  | 0, _, _, _, _, _, _, h => by simp [leafKinds] at h
  | n + 1, t, s, b, a, ks, he, h => by
    have ih := eqAt n
    obtain ⟨inf, dd, h1, h2, h3, h4, h5⟩ := elI_spec he
    intro M as bs xs ys r w d hd ka kb hx hy hq
    obtain ⟨d, rfl⟩ : ∃ m, d = m + 1 := ⟨d - 1, by omega⟩
    unfold leafKinds at h
    rw [h2] at h
    cases dd <;> simp only at h <;> try (cases h; done)
    case bool =>
      cases h
      subst h5
      obtain ⟨u, x, rfl, rfl, k1, r1⟩ := leaf1 ka hx
      obtain ⟨v, y, rfl, rfl, k2, r2⟩ := leaf1 kb hy
      cases u <;> simp [kindOk] at k1
      cases v <;> simp [kindOk] at k2
      simp only [VRel] at r1 r2
      subst r1 r2
      simp [eqCells, eqCell] at hq
      simp [valOf, isAggD, Op.equalIn, underlying, h2, hq]
    case string =>
      cases h
      subst h5
      obtain ⟨u, x, rfl, rfl, k1, r1⟩ := leaf1 ka hx
      obtain ⟨v, y, rfl, rfl, k2, r2⟩ := leaf1 kb hy
      cases u <;> simp [kindOk] at k1
      cases v <;> simp [kindOk] at k2
      simp only [VRel] at r1 r2
      subst r1 r2
      simp [eqCells, eqCell] at hq
      simp [valOf, isAggD, Op.equalIn, underlying, h2, hq]
    case int k =>
      cases h
      subst h5
      obtain ⟨u, x, rfl, rfl, k1, r1⟩ := leaf1 ka hx
      obtain ⟨v, y, rfl, rfl, k2, r2⟩ := leaf1 kb hy
      cases u <;> simp [kindOk] at k1
      cases v <;> simp [kindOk] at k2
      simp only [VRel] at r1 r2
      subst r1 r2 k1 k2
      simp [eqCells, eqCell] at hq
      simp [valOf, isAggD, Op.equalIn, underlying, h2, hq]
    case array len e =>
      subst h5
      split at h
      · rename_i s' b' a' kf q1 q2
        split at h
        · rename_i hs
          cases h
          have := eq_elems (d := d) (by omega) q1 q2 hs (ih e s' b' a' kf q1 q2) M w xs ys len 0 as bs r ka kb (by simpa using hx) (by simpa using hy) hq
          simp only [valOf, isAggD, if_true]
          rw [run_equalIn_array w d t e len s' ⟨xs⟩ ⟨ys⟩ h2 (fun w => run_sizeOf_el q1 w)]
          exact this
        · cases h
      · cases h
    case struct fs =>
      subst h5
      split at h
      · cases h
      · rename_i hst
        have hf : P.underlying t = some (.struct (P.fieldsOf t)) := by simp [Program.fieldsOf, h2]
        have hfs : P.fieldsOf t = fs := by simp [Program.fieldsOf, h2]
        simp only [valOf, isAggD, if_true]
        rw [run_equalIn_struct w d t ⟨xs⟩ ⟨ys⟩ hf (by simpa using hst), hfs]
        exact eq_fields (by omega) ih M w xs ys fs.toList 0 ks as bs r h ka kb (by simpa using hx) (by simpa using hy) (Nat.zero_le _) (Nat.zero_le _) hq
end Go.Am

/-! 'Am', part 12: binary and unary operators, min, max. -/
namespace Go.Am
variable {P : Program} {X : Ctx} {h : HP} {M : Mem}

def eqK (P : Program) (t : TypeId) : Option (List LK) := if P.eqGuardType P.depth t = true then none else leafKinds P 8 t

def bitsA (op : BinOp) (k : IntKind) (x y : Int) : Int :=
  let a := BitVec.ofInt k.bits x
  let b := BitVec.ofInt k.bits y
  match op with
  | .and => k.wrap (a &&& b).toNat
  | .or => k.wrap (a ||| b).toNat
  | .xor => k.wrap (a ^^^ b).toNat
  | _ => k.wrap (a &&& ~~~b).toNat

def aggT (P : Program) (t : TypeId) : Bool := ((P.underlying t).map isAggD).getD false
def eqA (P : Program) (t : TypeId) (as bs : List AV) : Option Bool :=
  match eqK P t with
  | some ks => if kindsOk ks as = true ∧ kindsOk ks bs = true ∧ aggT P t = true then eqCells as bs else none
  | none => none

def intA (op : BinOp) (k : IntKind) (a b : Int) : Option AV :=
  match op with
  | .add => some (.int k (k.wrap (a + b)))
  | .sub => some (.int k (k.wrap (a - b)))
  | .mul => some (.int k (k.wrap (a * b)))
  | .quo => if b = 0 then none else some (.int k (k.wrap (a.tdiv b)))
  | .rem => if b = 0 then none else some (.int k (a.tmod b))
  | .and => some (.int k (bitsA .and k a b))
  | .or => some (.int k (bitsA .or k a b))
  | .xor => some (.int k (bitsA .xor k a b))
  | .andNot => some (.int k (bitsA .andNot k a b))
  | .eql => some (.bool (a == b))
  | .neq => some (.bool (a != b))
  | .lss => some (.bool (decide (a < b)))
  | .leq => some (.bool (decide (a ≤ b)))
  | .gtr => some (.bool (decide (a > b)))
  | .geq => some (.bool (decide (a ≥ b)))
  | _ => none

def strOpA (op : BinOp) (x y : ByteArray) : Option AV :=
  match op with
  | .add => if x.size + y.size ≤ 2 ^ 62 then some (.str (x ++ y)) else none
  | .eql => some (.bool (x.toList == y.toList))
  | .neq => some (.bool !(x.toList == y.toList))
  | .lss => some (.bool (Op.bytesLess x.toList y.toList))
  | .leq => some (.bool (Op.bytesLess x.toList y.toList || x.toList == y.toList))
  | .gtr => some (.bool !(Op.bytesLess x.toList y.toList || x.toList == y.toList))
  | .geq => some (.bool !(Op.bytesLess x.toList y.toList))
  | _ => none

def isBoolT (P : Program) (t : TypeId) : Bool :=
  match tyI P t with
  | some i => (match i.td with | .bool => true | _ => false)
  | none => false

def isSliceT (P : Program) (t : TypeId) : Bool :=
  match tyI P t with
  | some i => (match i.td with | .slice _ _ _ _ => true | _ => false)
  | none => false
theorem isSliceT_spec {P : Program} {t : TypeId} (h : isSliceT P t = true) : ∃ e, P.underlying t = some (.slice e) := by
  unfold isSliceT at h
  split at h
  · rename_i i hi
    obtain ⟨inf, d, z, h1, h2, h3, h4, h5, h6, h7, h8⟩ := tyI_spec hi
    split at h
    · rename_i htd
      obtain ⟨rfl, _⟩ := TD_slice (h8.symm.trans htd)
      exact ⟨_, h2⟩
    · cases h
  · cases h
def binA (P : Program) (op : BinOp) (t : TypeId) (x y : AV) : Option AV :=
  match x, y with
  | .int k a, .int k' b => match op with
    | .shl => if 0 ≤ b then some (.int k (k.wrap (a * 2 ^ (min b.toNat k.bits)))) else none
    | .shr => if 0 ≤ b then some (.int k (a.fdiv (2 ^ (min b.toNat k.bits)))) else none
    | op => if k = k' then intA op k a b else none
  | .str a, .str b => strOpA op a b
  | .bool a, .bool b => if isBoolT P t = true then (match op with
    | .eql => some (.bool (a == b))
    | .neq => some (.bool (a != b))
    | _ => none) else none
  | .agg as, .agg bs => match eqA P t as bs with
    | some r => (match op with
      | .eql => some (.bool r)
      | .neq => some (.bool !r)
      | _ => none)
    | none => none
  | .exact (.slice b _ _), .nils => if isSliceT P t = true then (match op with
    | .eql => some (.bool b.isNone)
    | _ => none) else none
  | .ro _ (_ :: _), .nils => if isSliceT P t = true then (match op with
    | .eql => some (.bool false)
    | _ => none) else none
  | _, _ => none

theorem aggT_spec {t : TypeId} (h : aggT P t = true) : ∃ d, P.underlying t = some d ∧ isAggD d = true := by
  unfold aggT at h
  cases hd : P.underlying t with
  | none => simp [hd] at h
  | some d => exact ⟨d, rfl, by simpa [hd] using h⟩

theorem info_of_underlying {t : TypeId} {d : TypeDesc} (h : P.underlying t = some d) : ∃ i, P.info? t = some i := by
  unfold Program.underlying at h
  split at h
  · exact ⟨_, by assumption⟩
  · exact ⟨_, by assumption⟩
  · cases h

theorem bin_sound {op : BinOp} {t : TypeId} {x y : AV} {ox oy : Operand} {vx vy : Value} (hx : VRel M true x vx) (hy : VRel M true y vy) {c : AV} (hc : binA P op t x y = some c) :
    ∃ v, (do eqGuard op t ox oy vx vy; binOp op t vx vy : Sem Value).run P M.w = .ok v M.w ∧ VRel M true c v := by
  unfold binA at hc
  split at hc
  · rename_i k a k' b
    simp only [VRel] at hx hy
    subst hx hy
    have hg : (eqGuard op t ox oy (.int k a) (.int k' b)).run P M.w = .ok () M.w := by cases op <;> simp [eqGuard]
    rw [Sem.run_bind, hg, Result.andThen_ok]
    cases op
    case shl =>
      simp only at hc
      split at hc
      · rename_i h0
        cases hc
        exact ⟨_, by simp [binOp, Op.shift, show ¬ b < 0 by omega], rfl⟩
      · cases hc
    case shr =>
      simp only at hc
      split at hc
      · rename_i h0
        cases hc
        exact ⟨_, by simp [binOp, Op.shift, show ¬ b < 0 by omega], rfl⟩
      · cases hc
    all_goals
      simp only at hc
      split at hc
      · rename_i hk
        subst hk
        simp only [intA] at hc
        first
          | (cases hc; exact ⟨_, by simp [binOp, Op.intArith, Op.intBits, Op.intCmp, bitsA], rfl⟩)
          | (split at hc
             · cases hc
             · rename_i hb
               cases hc
               exact ⟨_, by simp [binOp, Op.intDiv, hb], rfl⟩)
          | cases hc
      · cases hc
  · rename_i a b
    simp only [VRel] at hx hy
    subst hx hy
    have hg : (eqGuard op t ox oy (.string a) (.string b)).run P M.w = .ok () M.w := by cases op <;> simp [eqGuard]
    rw [Sem.run_bind, hg, Result.andThen_ok]
    cases op
    case add =>
      simp only [strOpA] at hc
      split at hc
      · rename_i hb
        cases hc
        have hmax : IntKind.i64.max = 9223372036854775807 := rfl
        have hno : ¬ (((a.size + b.size : Nat) : Int) > IntKind.i64.max) := by rw [hmax]; omega
        refine ⟨.string (a ++ b), ?_, rfl⟩
        simp only [binOp, Op.stringOp]
        rw [if_neg hno]
        rfl
      · cases hc
    all_goals
      simp only [strOpA] at hc
      first
        | (cases hc; exact ⟨_, by simp [binOp, Op.stringOp], rfl⟩)
        | cases hc
  · rename_i a b
    split at hc
    · rename_i hbt
      have hd : P.underlying t = some .bool := by
        unfold isBoolT at hbt
        split at hbt
        · rename_i i hi
          obtain ⟨inf, d, z, h1, h2, h3, h4, h5, h6, h7, h8⟩ := tyI_spec hi
          split at hbt
          · rename_i htd
            rw [h2, TD_bool (h8.symm.trans htd)]
          · cases hbt
        · cases hbt
      simp only [VRel] at hx hy
      subst hx hy
      have hg : (eqGuard op t ox oy (.bool a) (.bool b)).run P M.w = .ok () M.w := by cases op <;> simp [eqGuard]
      rw [Sem.run_bind, hg, Result.andThen_ok]
      have E : (Op.equalIn 10000 t (.bool a) (.bool b)).run P M.w = .ok (a == b) M.w := run_equalIn_bool M.w 9999 t a b hd
      cases op <;> simp only at hc <;> try (cases hc; done)
      · cases hc
        exact ⟨.bool (a == b), by simp only [binOp]; simp [Op.equal, Op.maxDepth, E], rfl⟩
      · cases hc
        exact ⟨.bool (a != b), by simp only [binOp]; simp [Op.equal, Op.maxDepth, E]; cases a <;> cases b <;> rfl, rfl⟩
    · cases hc
  · rename_i as bs
    split at hc
    · rename_i r hr
      unfold eqA at hr
      split at hr
      · rename_i ks hks
        split at hr
        · rename_i hcond
          obtain ⟨ka, kb, hag⟩ := hcond
          obtain ⟨xs, rfl, hxs⟩ := hx
          obtain ⟨ys, rfl, hys⟩ := hy
          obtain ⟨d, hd, hda⟩ := aggT_spec hag
          obtain ⟨inf, hinf⟩ := info_of_underlying hd
          unfold eqK at hks
          split at hks
          · cases hks
          · rename_i hgd
            have he : elI P t = some (inf.size, inf.bytes, true) := by simp [elI, hinf, hd, hda]
            have E := eqAt 8 t _ _ _ ks he hks M as bs xs ys r M.w 10000 (by omega) ka kb hxs hys hr
            simp only [valOf, if_true] at E
            have hg : (eqGuard op t ox oy (.agg ⟨xs⟩) (.agg ⟨ys⟩)).run P M.w = .ok () M.w := run_eqGuard_agg M.w op t ox oy _ _ (by simpa using hgd)
            rw [Sem.run_bind, hg, Result.andThen_ok]
            cases op <;> simp only at hc <;> try (cases hc; done)
            · cases hc
              refine ⟨.bool r, ?_, rfl⟩
              rw [run_eql_struct, E]; rfl
            · cases hc
              refine ⟨.bool !r, ?_, rfl⟩
              rw [run_neq_struct, E]; rfl
        · cases hr
      · cases hr
    · cases hc
  · rename_i b n c
    split at hc
    · rename_i hst
      obtain ⟨e, he⟩ := isSliceT_spec hst
      cases op <;> simp only at hc <;> try (cases hc; done)
      cases hc
      simp only [VRel] at hx hy
      subst hx hy
      exact ⟨_, by simp [eqGuard, Lib.run_eql_slice_nil M.w t e b n c 0 0 he], rfl⟩
    · cases hc
  · rename_i n c cs
    split at hc
    · rename_i hst
      obtain ⟨e, he⟩ := isSliceT_spec hst
      cases op <;> simp only at hc <;> try (cases hc; done)
      cases hc
      simp only [VRel] at hy
      obtain ⟨base, cap, rfl, hn, hcs⟩ := hx
      subst hy
      rcases hcs with h | ⟨b, off, C, e', fz, rfl, _⟩
      · cases h
      · exact ⟨_, by simp [eqGuard, Lib.run_eql_slice_nil M.w t e _ n cap 0 0 he], rfl⟩
    · cases hc
  · cases hc

def unA (op : UnOp) (x : AV) : Option AV :=
  match op, x with
  | .neg, .int k n => some (.int k (k.wrap (0 - n)))
  | .xor, .int k n => some (.int k (bitsA .xor k (if k.signed then -1 else k.max) n))
  | .not, .bool b => some (.bool !b)
  | _, _ => none
theorem un_sound {op : UnOp} {x : AV} {v : Value} (hx : VRel M true x v) {c : AV} (hc : unA op x = some c) : ∃ u, (Op.unary op v).run P M.w = .ok u M.w ∧ VRel M true c u := by
  unfold unA at hc
  split at hc <;> cases hc <;> simp only [VRel] at hx <;> subst hx
  · exact ⟨_, by simp [Op.unary, Op.intArith], rfl⟩
  · exact ⟨_, by simp [Op.unary, Op.intBits, bitsA], rfl⟩
  · exact ⟨_, by simp [Op.unary], rfl⟩

def maxA (x y : AV) : Option AV :=
  match x, y with
  | .int k a, .int _ b => some (.int k (if b > a then b else a))
  | _, _ => none
def minA (x y : AV) : Option AV :=
  match x, y with
  | .int k a, .int _ b => some (.int k (if b < a then b else a))
  | _, _ => none
theorem max_sound {ts : Array TypeId} {ty : TypeId} {x y : AV} {vx vy : Value} (hx : VRel M true x vx) (hy : VRel M true y vy) {c : AV} (hc : maxA x y = some c) :
    ∃ v, (Builtin.max_ ts ty #[vx, vy]).run P M.w = .ok v M.w ∧ VRel M true c v := by
  unfold maxA at hc
  split at hc <;> cases hc
  simp only [VRel] at hx hy
  subst hx hy
  exact ⟨_, by simp [Builtin.max_, Builtin.max2], rfl⟩
theorem min_sound {ts : Array TypeId} {ty : TypeId} {x y : AV} {vx vy : Value} (hx : VRel M true x vx) (hy : VRel M true y vy) {c : AV} (hc : minA x y = some c) :
    ∃ v, (Builtin.min_ ts ty #[vx, vy]).run P M.w = .ok v M.w ∧ VRel M true c v := by
  unfold minA at hc
  split at hc <;> cases hc
  simp only [VRel] at hx hy
  subst hx hy
  exact ⟨_, by simp [Builtin.min_, Builtin.min2], rfl⟩
end Go.Am
