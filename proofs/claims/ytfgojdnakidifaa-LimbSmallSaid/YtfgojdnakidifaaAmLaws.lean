/-
  'Am', part 20: what the operations give at integers, arrays, structs.
-/
import Derived.Test.YtfgojdnakidifaaAmSimp
set_option linter.unusedSimpArgs false
set_option linter.unusedVariables false
namespace Go.Am
variable {P : Program}

/-! ### Integers -/
theorem w_u8 (n : Int) : IntKind.u8.wrap n = n % 256 := by simp [IntKind.wrap, IntKind.bits, IntKind.signed]
theorem w_u32 (n : Int) : IntKind.u32.wrap n = n % 4294967296 := by simp [IntKind.wrap, IntKind.bits, IntKind.signed]
theorem w_u64 (n : Int) : IntKind.u64.wrap n = n % 18446744073709551616 := by simp [IntKind.wrap, IntKind.bits, IntKind.signed]
theorem in_u8 {n : Int} (h0 : 0 ≤ n) (h1 : n < 256) : IntKind.u8.wrap n = n := by rw [w_u8]; omega
theorem in_u32 {n : Int} (h0 : 0 ≤ n) (h1 : n < 4294967296) : IntKind.u32.wrap n = n := by rw [w_u32]; omega
theorem in_u64 {n : Int} (h0 : 0 ≤ n) (h1 : n < 18446744073709551616) : IntKind.u64.wrap n = n := by rw [w_u64]; omega
theorem in_i64 {n : Int} (h0 : -9223372036854775808 ≤ n) (h1 : n < 9223372036854775808) : IntKind.i64.wrap n = n := by
  simp [IntKind.wrap, IntKind.bits, IntKind.signed]; omega

section
variable {i : TyI} {s b : Nat} {a : Bool} {z : List AV} {h : HP} {k q : IntKind} {t : TypeId} {x y : Int}
@[simp] theorem convA_int : convA P i ⟨s, b, a, z, .int k⟩ h (.int q x) = some (.int k (k.wrap x)) := (rfl)
@[simp] theorem binA_add : binA P .add t (.int k x) (.int k y) = some (.int k (k.wrap (x + y))) := by simp [binA, intA]
@[simp] theorem binA_sub : binA P .sub t (.int k x) (.int k y) = some (.int k (k.wrap (x - y))) := by simp [binA, intA]
@[simp] theorem binA_mul : binA P .mul t (.int k x) (.int k y) = some (.int k (k.wrap (x * y))) := by simp [binA, intA]
@[simp] theorem binA_and : binA P .and t (.int k x) (.int k y) = some (.int k (bitsA .and k x y)) := by simp [binA, intA]
@[simp] theorem binA_or : binA P .or t (.int k x) (.int k y) = some (.int k (bitsA .or k x y)) := by simp [binA, intA]
@[simp] theorem binA_xor : binA P .xor t (.int k x) (.int k y) = some (.int k (bitsA .xor k x y)) := by simp [binA, intA]
@[simp] theorem binA_andNot : binA P .andNot t (.int k x) (.int k y) = some (.int k (bitsA .andNot k x y)) := by simp [binA, intA]
@[simp] theorem binA_eql : binA P .eql t (.int k x) (.int k y) = some (.bool (x == y)) := by simp [binA, intA]
@[simp] theorem binA_neq : binA P .neq t (.int k x) (.int k y) = some (.bool (x != y)) := by simp [binA, intA]
@[simp] theorem binA_lss : binA P .lss t (.int k x) (.int k y) = some (.bool (decide (x < y))) := by simp [binA, intA]
@[simp] theorem binA_leq : binA P .leq t (.int k x) (.int k y) = some (.bool (decide (x ≤ y))) := by simp [binA, intA]
@[simp] theorem binA_gtr : binA P .gtr t (.int k x) (.int k y) = some (.bool (decide (y < x))) := by simp [binA, intA]
@[simp] theorem binA_geq : binA P .geq t (.int k x) (.int k y) = some (.bool (decide (y ≤ x))) := by simp [binA, intA]
theorem binA_quo (h0 : 0 ≤ x) (h1 : 0 < y) : binA P .quo t (.int k x) (.int k y) = some (.int k (k.wrap (x / y))) := by
  simp [binA, intA, show y ≠ 0 by omega, Int.tdiv_eq_ediv_of_nonneg h0]
theorem binA_rem (h0 : 0 ≤ x) (h1 : 0 < y) : binA P .rem t (.int k x) (.int k y) = some (.int k (x % y)) := by
  simp [binA, intA, show y ≠ 0 by omega, Int.tmod_eq_emod_of_nonneg h0]
theorem binA_shr (h0 : 0 ≤ y) : binA P .shr t (.int k x) (.int q y) = some (.int k (x / 2 ^ (min y.toNat k.bits))) := by
  simp [binA, h0, Int.fdiv_eq_ediv_of_nonneg x (show (0 : Int) ≤ 2 ^ (min y.toNat k.bits) from Int.le_of_lt (Int.pow_pos (by omega)))]
theorem binA_shl (h0 : 0 ≤ y) : binA P .shl t (.int k x) (.int q y) = some (.int k (k.wrap (x * 2 ^ (min y.toNat k.bits)))) := by
  simp [binA, h0]
@[simp] theorem binA_eqlb {x y : Bool} : binA P .eql t (.bool x) (.bool y) = if isBoolT P t = true then some (.bool (x == y)) else none := by simp [binA]
@[simp] theorem binA_neqb {x y : Bool} : binA P .neq t (.bool x) (.bool y) = if isBoolT P t = true then some (.bool (x != y)) else none := by simp [binA]
@[simp] theorem unA_not {x : Bool} : unA .not (.bool x) = some (.bool !x) := (rfl)
@[simp] theorem unA_neg : unA .neg (.int k x) = some (.int k (k.wrap (0 - x))) := (rfl)
@[simp] theorem unA_xor : unA .xor (.int k x) = some (.int k (bitsA .xor k (if k.signed then -1 else k.max) x)) := (rfl)
end

/-! ### Blocks -/
section
variable {bk : Nat → Option Blk} {nt : Nat} {k : Blk} {id off s b : Nat} {a : Bool} {z : List AV} {td : TD}
@[simp] theorem hp_add : (HP.mk bk nt).add k = ⟨upd bk nt (some k), nt + 1⟩ := (rfl)
/-- A block's cells at a place: what a load of n cells gives. -/
def segA (cs : List AV) (off n : Nat) : Option AV := if off + n ≤ cs.length then some (.agg ((cs.drop off).take n)) else none
@[simp] theorem segA_num {N : Nat} : segA (numL N) 0 8 = some (num N) := by simp [segA, num, List.take_of_length_le]
theorem segA_all {n : Nat} {cs : List AV} (h : cs.length = n) : segA cs 0 n = some (.agg cs) := by
  subst h; simp [segA]
def blkT {α : Type} (o : Option Blk) (f : Blk → Option α) : Option α := match o with | some k => f k | none => none
@[simp] theorem blkT_some {α : Type} {f : Blk → Option α} : blkT (some k) f = f k := (rfl)
@[simp] theorem load_agg : loadA ⟨s, b, true, z, td⟩ ⟨bk, nt⟩ (.ptr id off) = blkT (bk id) fun k => segA k.cs off s := by
  simp only [loadA, blkT, segA]
  cases bk id <;> rfl
@[simp] theorem load_leaf : loadA ⟨s, b, false, z, td⟩ ⟨bk, nt⟩ (.ptr id off) = blkT (bk id) fun k => k.cs[off]? := by
  simp only [loadA, blkT]
  cases bk id <;> rfl
@[simp] theorem load_rp {cs : List AV} {h : HP} : loadA ⟨s, b, false, z, td⟩ h (.rp cs) = cs[0]? := (rfl)
@[simp] theorem load_rpa {cs : List AV} {h : HP} : loadA ⟨s, b, true, z, td⟩ h (.rp cs) = segA cs 0 s := by simp [loadA, segA]
/-- A store of one cell. -/
theorem store_int {q : IntKind} {n : Int} : storeA ⟨1, b, a, z, td⟩ ⟨bk, nt⟩ (.ptr id off) (.int q n) = blkT (bk id) fun k => if off < k.cs.length then some ⟨upd bk id (some ⟨k.cs.set off (.int q n), k.fix⟩), nt⟩ else none := by
  simp only [storeA, blkT]
  cases bk id <;> simp [leafOk]
theorem store_bool {v : Bool} : storeA ⟨1, b, a, z, td⟩ ⟨bk, nt⟩ (.ptr id off) (.bool v) = blkT (bk id) fun k => if off < k.cs.length then some ⟨upd bk id (some ⟨k.cs.set off (.bool v), k.fix⟩), nt⟩ else none := by
  simp only [storeA, blkT]
  cases bk id <;> simp [leafOk]
theorem store_ro {n : Nat} {cs : List AV} : storeA ⟨1, b, a, z, td⟩ ⟨bk, nt⟩ (.ptr id off) (.ro n cs) = blkT (bk id) fun k => if off < k.cs.length then some ⟨upd bk id (some ⟨k.cs.set off (.ro n cs), k.fix⟩), nt⟩ else none := by
  simp only [storeA, blkT]
  cases bk id <;> simp [leafOk]
theorem store_str {v : ByteArray} : storeA ⟨1, b, a, z, td⟩ ⟨bk, nt⟩ (.ptr id off) (.str v) = blkT (bk id) fun k => if off < k.cs.length then some ⟨upd bk id (some ⟨k.cs.set off (.str v), k.fix⟩), nt⟩ else none := by
  simp only [storeA, blkT]
  cases bk id <;> simp [leafOk]
/-- A store of a whole number. -/
def putSeg (cs : List AV) (off : Nat) (vs : List AV) : Option (List AV) := if off + vs.length ≤ cs.length then some (cs.take off ++ vs ++ cs.drop (off + vs.length)) else none
theorem putSeg_all {cs vs : List AV} (h : cs.length = vs.length) : putSeg cs 0 vs = some vs := by
  simp [putSeg, h]
@[simp] theorem putSeg_num {A N : Nat} : putSeg (numL A) 0 (numL N) = some (numL N) := putSeg_all (by simp)
@[simp] theorem store_num {N : Nat} : storeA ⟨8, b, a, z, td⟩ ⟨bk, nt⟩ (.ptr id off) (num N) = blkT (bk id) fun k => (putSeg k.cs off (numL N)).map fun cs => ⟨upd bk id (some ⟨cs, k.fix⟩), nt⟩ := by
  simp only [storeA, blkT, num, putSeg]
  cases bk id with
  | none => rfl
  | some k =>
    simp only [numL_length, leaf_numL]
    by_cases h : off + 8 ≤ k.cs.length <;> simp [h]
theorem store_agg {vs : List AV} (hs : vs.length = s) (hl : vs.all leafOk = true) : storeA ⟨s, b, a, z, td⟩ ⟨bk, nt⟩ (.ptr id off) (.agg vs) = blkT (bk id) fun k => (putSeg k.cs off vs).map fun cs => ⟨upd bk id (some ⟨cs, k.fix⟩), nt⟩ := by
  subst hs
  simp only [storeA, blkT, putSeg]
  cases bk id with
  | none => rfl
  | some k => by_cases h : off + vs.length ≤ k.cs.length <;> simp [h, hl]

@[simp] theorem idx_int {q : IntKind} {x : Int} {n : Nat} : idx (.int q x) n = if 0 ≤ x ∧ x < n then some x.toNat else none := (rfl)
@[simp] theorem ixA_arr {n e es : Nat} {ea : Bool} {ix : AV} : indexAddrA ⟨s, b, a, z, .array n e es ea⟩ ⟨bk, nt⟩ (.ptr id off) ix = if (bk id).isSome = true then (idx ix n).map fun j => .ptr id (off + j * es) else none := (rfl)
@[simp] theorem ixA_ro {e es n eb : Nat} {ea : Bool} {ix : AV} {cs : List AV} {h : HP} : indexAddrA ⟨s, b, a, z, .slice e es ea eb⟩ h (.ro n cs) ix = if cs = [] then none else (idx ix n).map fun j => .rp (cs.drop (j * es)) := (rfl)
@[simp] theorem ixA_sl {e es n eb : Nat} {ea : Bool} {ix : AV} : indexAddrA ⟨s, b, a, z, .slice e es ea eb⟩ ⟨bk, nt⟩ (.sl id off es n) ix = if (bk id).isSome = true then (idx ix n).map fun j => .ptr id (off + j * es) else none := by
  simp [indexAddrA]
@[simp] theorem index_num {n e : Nat} {ix : AV} {N : Nat} : indexA ⟨s, b, a, z, .array n e 1 false⟩ (num N) ix = (idx ix n).bind fun j => (numL N)[j]? := by
  simp only [indexA, num, partA, Nat.mul_one]
  cases idx ix n <;> rfl
def nth {α : Type} (l : List α) (j : Nat) : Option α := l[j]?
@[simp] theorem nth_zero {α : Type} {a : α} {l : List α} : nth (a :: l) 0 = some a := (rfl)
@[simp] theorem nth_succ {α : Type} {a : α} {l : List α} {j : Nat} : nth (a :: l) (j + 1) = nth l j := (rfl)
@[simp] theorem extract_tup {vs : List AV} {j : Nat} : extractA (.tup vs) j = nth vs j := (rfl)
@[simp] theorem faA {fs : List (Nat × Nat × Bool)} {f : Nat} : fieldAddrA ⟨s, b, a, z, .struct fs⟩ ⟨bk, nt⟩ f (.ptr id off) = (nth fs f).bind fun p => if p.2.1 ≠ 0 ∧ (bk id).isSome = true then some (.ptr id (off + p.1)) else none := by
  simp only [fieldAddrA, nth]
  cases fs[f]? <;> rfl
@[simp] theorem nilA_ptr : nilA ⟨bk, nt⟩ (.ptr id off) = if (bk id).isSome = true then some (.ptr id off) else none := (rfl)
end
theorem numL_get {N i : Nat} (h : i < 8) : (numL N)[i]? = some (limbA N i) := famL_get _ _ _ h
attribute [simp] iniT_zero iniT_succ
@[simp] theorem bits_u8 : IntKind.u8.bits = 8 := (rfl)
@[simp] theorem bits_u32 : IntKind.u32.bits = 32 := (rfl)
@[simp] theorem bits_u64 : IntKind.u64.bits = 64 := (rfl)
@[simp] theorem bits_i64 : IntKind.i64.bits = 64 := (rfl)

/-! ### Results -/
def resL (P : Program) (σ : AS) (L : List ResultVar) : Option AV :=
  match resVars P σ L with
  | some [a] => some (view σ.h a)
  | some as => some (.tup (as.map (view σ.h)))
  | none => none
theorem resA_L {fn : Func} {L : List ResultVar} {σ : AS} (h : fn.results = List.toArray L) : resA P fn σ = resL P σ L := by
  unfold resA resL
  rw [h]
  rfl
def r1 (o : Option AV) (h : HP) : Option AV := o.map (view h)
def r2 (o p : Option AV) (h : HP) : Option AV := match o, p with | some a, some b => some (.tup [view h a, view h b]) | _, _ => none
def r3 (o p q : Option AV) (h : HP) : Option AV := match o, p, q with | some a, some b, some c => some (.tup [view h a, view h b, view h c]) | _, _, _ => none
@[simp] theorem resL_1 {σ : AS} {a : ResultVar} : resL P σ [a] = r1 (resVar P σ a) σ.h := by
  unfold resL resVars r1
  cases resVar P σ a <;> rfl
@[simp] theorem resL_2 {σ : AS} {a b : ResultVar} : resL P σ [a, b] = r2 (resVar P σ a) (resVar P σ b) σ.h := by
  unfold resL resVars resVars resVars r2
  cases resVar P σ a <;> cases resVar P σ b <;> rfl
@[simp] theorem resL_3 {σ : AS} {a b c : ResultVar} : resL P σ [a, b, c] = r3 (resVar P σ a) (resVar P σ b) (resVar P σ c) σ.h := by
  unfold resL resVars resVars resVars resVars r3
  cases resVar P σ a <;> cases resVar P σ b <;> cases resVar P σ c <;> rfl
@[simp] theorem resVar_tmp {σ : AS} {t : Tmp} : resVar P σ (.tmp t) = some (σ.tm t) := (rfl)
@[simp] theorem resVar_cell {σ : AS} {a : Tmp} {t : TypeId} : resVar P σ (.cell a t) = (tyI P t).bind fun i => loadA i σ.h (σ.tm a) := by
  simp only [resVar, withTy]
  cases tyI P t <;> rfl
@[simp] theorem r1_some {a : AV} {h : HP} : r1 (some a) h = some (view h a) := (rfl)
@[simp] theorem r2_some {a b : AV} {h : HP} : r2 (some a) (some b) h = some (.tup [view h a, view h b]) := (rfl)
@[simp] theorem r3_some {a b c : AV} {h : HP} : r3 (some a) (some b) (some c) h = some (.tup [view h a, view h b, view h c]) := (rfl)
@[simp] theorem view_int {h : HP} {k : IntKind} {n : Int} : view h (.int k n) = .int k n := (rfl)
@[simp] theorem view_bool {h : HP} {b : Bool} : view h (.bool b) = .bool b := (rfl)
@[simp] theorem view_str {h : HP} {s : ByteArray} : view h (.str s) = .str s := (rfl)
@[simp] theorem view_ro {h : HP} {n : Nat} {cs : List AV} : view h (.ro n cs) = .ro n cs := (rfl)
@[simp] theorem view_nils {h : HP} : view h .nils = .nils := (rfl)
@[simp] theorem noBk_eq (i : Nat) : noBk i = none := (rfl)
end Go.Am
