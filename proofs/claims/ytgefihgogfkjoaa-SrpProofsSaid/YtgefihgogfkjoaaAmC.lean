/-
  AmC: AmSimp, AmLaws, AmLoop, AmLaws2, AmBits, AmLaws3, AmRow, AmStr
-/
import Derived.Test.YtgefihgogfkjoaaAmB
import Derived.Below
set_option linter.unusedSimpArgs false
set_option linter.unusedVariables false
/-! 'Am', part 19: the words by which a run is reckoned. -/
namespace Go.Am
variable {P : Program}

/-- Cells by number. -/
def famL (f : Nat → AV) (n : Nat) : List AV := (List.range n).map f
@[simp] theorem famL_length (f : Nat → AV) (n : Nat) : (famL f n).length = n := by simp [famL]
theorem famL_get (f : Nat → AV) (n i : Nat) (h : i < n) : (famL f n)[i]? = some (f i) := by simp [famL, h]
theorem famL_set (f : Nat → AV) (n i : Nat) (v : AV) : (famL f n).set i v = famL (upd f i v) n := by
  apply List.ext_getElem?
  intro j
  simp only [famL, List.getElem?_set, List.getElem?_map, List.length_map, List.length_range]
  by_cases hj : j < n
  · by_cases hij : i = j
    · subst hij; simp [hj, upd]
    · simp [hj, hij, upd, Ne.symm hij]
  · by_cases hij : i = j
    · subst hij; simp [hj]
    · simp [hj, hij]
theorem famL_congr {f g : Nat → AV} {n : Nat} (h : ∀ i, i < n → f i = g i) : famL f n = famL g n :=
  List.map_congr_left fun i hi => h i (List.mem_range.1 hi)
theorem famL_succ (f : Nat → AV) (n : Nat) : famL f (n + 1) = famL f n ++ [f n] := by simp [famL, List.range_succ]

theorem noRefs_append : ∀ a b : List AV, noRefs (a ++ b) = (noRefs a && noRefs b)
  | [], b => by simp [noRefs]
  | c :: a, b => by simp [noRefs, noRefs_append a b, Bool.and_assoc]
theorem flats_append : ∀ a b : List AV, flats (a ++ b) = (flats a && flats b)
  | [], b => by simp [flats]
  | c :: a, b => by simp [flats, flats_append a b, Bool.and_assoc]
theorem refsLts_append (n : Nat) : ∀ a b : List AV, refsLts n (a ++ b) = (refsLts n a && refsLts n b)
  | [], b => by simp [refsLts]
  | c :: a, b => by simp [refsLts, refsLts_append n a b, Bool.and_assoc]
theorem rens_append (ρ : Nat → Nat) : ∀ a b : List AV, rens ρ (a ++ b) = rens ρ a ++ rens ρ b
  | [], b => rfl
  | c :: a, b => by simp [rens, rens_append ρ a b]
theorem noRefs_famL {f : Nat → AV} {n : Nat} (h : ∀ i, i < n → noRef (f i) = true) : noRefs (famL f n) = true := by
  induction n with
  | zero => rfl
  | succ n ih => rw [famL_succ, noRefs_append, ih fun i hi => h i (by omega)]; simp [noRefs, h n (by omega)]
theorem flats_famL {f : Nat → AV} {n : Nat} (h : ∀ i, i < n → flat (f i) = true) : flats (famL f n) = true := by
  induction n with
  | zero => rfl
  | succ n ih => rw [famL_succ, flats_append, ih fun i hi => h i (by omega)]; simp [flats, h n (by omega)]
theorem refsLts_famL {f : Nat → AV} {n m : Nat} (h : ∀ i, i < n → refsLt m (f i) = true) : refsLts m (famL f n) = true := by
  induction n with
  | zero => rfl
  | succ n ih => rw [famL_succ, refsLts_append, ih fun i hi => h i (by omega)]; simp [refsLts, h n (by omega)]
theorem rens_famL {ρ : Nat → Nat} {f : Nat → AV} {n : Nat} (h : ∀ i, i < n → ren ρ (f i) = f i) : rens ρ (famL f n) = famL f n := by
  induction n with
  | zero => rfl
  | succ n ih => rw [famL_succ, rens_append, ih fun i hi => h i (by omega)]; simp [rens, h n (by omega)]
theorem leaf_famL {f : Nat → AV} {n : Nat} (h : ∀ i, i < n → leafOk (f i) = true) : (famL f n).all leafOk = true := by
  simp only [famL, List.all_map, List.all_eq_true, List.mem_range]
  exact h

/-! ### Numbers -/
theorem limb_ex : ∃ f : Nat → Nat → Nat, ∀ N i, f N i = N / 2 ^ (32 * i) % 2 ^ 32 := ⟨_, fun _ _ => rfl⟩
/-- The i-th limb: chosen, so that the kernel does not unfold a division when it holds two numbers against one another. -/
noncomputable def limb : Nat → Nat → Nat := Classical.choose limb_ex
theorem limb_def (N i : Nat) : limb N i = N / 2 ^ (32 * i) % 2 ^ 32 := Classical.choose_spec limb_ex N i
noncomputable def limbA (N i : Nat) : AV := .int .u32 (limb N i : Nat)
noncomputable def numL (N : Nat) : List AV := famL (limbA N) 8
noncomputable def num (N : Nat) : AV := .agg (numL N)

@[simp] theorem numL_length (N : Nat) : (numL N).length = 8 := by simp [numL]
@[simp] theorem noRefs_numL (N : Nat) : noRefs (numL N) = true := noRefs_famL fun _ _ => rfl
@[simp] theorem flats_numL (N : Nat) : flats (numL N) = true := flats_famL fun _ _ => rfl
@[simp] theorem refsLts_numL (m N : Nat) : refsLts m (numL N) = true := refsLts_famL fun _ _ => rfl
@[simp] theorem rens_numL (ρ : Nat → Nat) (N : Nat) : rens ρ (numL N) = numL N := rens_famL fun _ _ => rfl
@[simp] theorem leaf_numL (N : Nat) : (numL N).all leafOk = true := leaf_famL fun _ _ => rfl
@[simp] theorem noRef_num (N : Nat) : noRef (num N) = true := by simp [num, noRef]
@[simp] theorem flat_num (N : Nat) : flat (num N) = true := by simp [num, flat]
@[simp] theorem cellsA_num (N : Nat) : cellsA (num N) = some (numL N) := (rfl)
@[simp] theorem refsLt_num (m N : Nat) : refsLt m (num N) = true := by simp [num, refsLt]
@[simp] theorem ren_num (ρ : Nat → Nat) (N : Nat) : ren ρ (num N) = num N := by simp [num, ren]
@[simp] theorem view_num (h : HP) (N : Nat) : view h (num N) = num N := by simp [num, view]

/-! ### The walk's own words: what stands under a token is not looked into -/
structure Tok {α : Sort _} (a : α) : Type where mk ::

def vcT (P : Program) (fn : FnE) (n : Nat) (todo : List Item) (r : RV) (_ : Tok fn) (_ : Tok todo) (_ : Tok r) (σ : AS) : Prop := vc P fn n todo σ r
def goT (P : Program) (fn : FnE) (todo : List Item) (r : RV) (_ : Tok fn) (_ : Tok todo) (_ : Tok r) (σ : AS) : Prop := GoA P fn todo σ r
def opsT (P : Program) (pc : PC) (L os : List Oper) (K : AS → Prop) (_ : Tok L) (_ : Tok os) (_ : Tok K) (σ : AS) : Prop := opsV P pc L os σ K
def execT (P : Program) (pc : PC) (o : Oper) (K : AS → Prop) (_ : Tok o) (_ : Tok K) (σ : AS) : Prop := execV P pc o σ K
def bindT {α : Type} (o : Option α) (K : α → Prop) (_ : Tok K) : Prop := bindV o K
def boolT (o : AV) (x y : Prop) (_ : Tok x) (_ : Tok y) : Prop := boolV o x y
def guardT (o : Option Bool) (x y : Prop) (_ : Tok x) (_ : Tok y) : Prop := guardV o x y
def callT (P : Program) (pc : PC) (f : AV) (args : List AV) (h : HP) (K : AV → HP → Prop) (_ : Tok K) : Prop := CallV P pc f args h K
def exitT (o : Option (List Item)) (K : List Item → Prop) (_ : Tok o) (_ : Tok K) : Prop := bindV o K

section
variable {fn : FnE} {n : Nat} {k : List Item} {σ : AS} {r : RV} {pc : PC} {t1 : Tok fn} {t3 : Tok r}
@[simp] theorem vc_nil {t2} : vcT P fn (n + 1) [] r t1 t2 t3 σ = (resF P fn σ r) := (rfl)
@[simp] theorem vc_inBlock {i : Nat} {t2} : vcT P fn (n + 1) (.inBlock i :: k) r t1 t2 t3 σ = vcT P fn n k r ⟨⟩ ⟨⟩ ⟨⟩ σ := (rfl)
@[simp] theorem vc_inScope {c : Code} {t2} : vcT P fn (n + 1) (.inScope c :: k) r t1 t2 t3 σ = vcT P fn n k r ⟨⟩ ⟨⟩ ⟨⟩ σ := (rfl)
@[simp] theorem vc_inLoop {c : Code} {t2} : vcT P fn (n + 1) (.inLoop c :: k) r t1 t2 t3 σ = goT P fn (.inLoop c :: k) r ⟨⟩ ⟨⟩ ⟨⟩ σ := (rfl)
@[simp] theorem vc_ret {t2} : vcT P fn (n + 1) (.code .ret :: k) r t1 t2 t3 σ = (resF P fn σ r) := (rfl)
@[simp] theorem vc_skip {t2} : vcT P fn (n + 1) (.code .skip :: k) r t1 t2 t3 σ = vcT P fn n k r ⟨⟩ ⟨⟩ ⟨⟩ σ := (rfl)
@[simp] theorem vc_label {l : Nat} {t2} : vcT P fn (n + 1) (.code (.label l) :: k) r t1 t2 t3 σ = vcT P fn n k r ⟨⟩ ⟨⟩ ⟨⟩ σ := (rfl)
@[simp] theorem vc_seq {a b : Code} {t2} : vcT P fn (n + 1) (.code (.seq a b) :: k) r t1 t2 t3 σ = vcT P fn n (.code a :: .code b :: k) r ⟨⟩ ⟨⟩ ⟨⟩ σ := (rfl)
@[simp] theorem vc_cond {c : Operand} {x y : Code} {t2} : vcT P fn (n + 1) (.code (.cond c x y) :: k) r t1 t2 t3 σ =
    boolT (σ.ev c) (vcT P fn n (.code x :: k) r ⟨⟩ ⟨⟩ ⟨⟩ σ) (vcT P fn n (.code y :: k) r ⟨⟩ ⟨⟩ ⟨⟩ σ) ⟨⟩ ⟨⟩ := (rfl)
@[simp] theorem vc_block {i : Nat} {c : Code} {t2} : vcT P fn (n + 1) (.code (.block i c) :: k) r t1 t2 t3 σ = vcT P fn n (.code c :: .inBlock i :: k) r ⟨⟩ ⟨⟩ ⟨⟩ σ := (rfl)
@[simp] theorem vc_loop {c : Code} {t2} : vcT P fn (n + 1) (.code (.loop c) :: k) r t1 t2 t3 σ = goT P fn (.inLoop c :: k) r ⟨⟩ ⟨⟩ ⟨⟩ σ := (rfl)
@[simp] theorem vc_scope {c : Code} {t2} : vcT P fn (n + 1) (.code (.scope c) :: k) r t1 t2 t3 σ = vcT P fn n (.code c :: .inScope c :: k) r ⟨⟩ ⟨⟩ ⟨⟩ σ := (rfl)
@[simp] theorem vc_exit {i : Nat} {t2} : vcT P fn (n + 1) (.code (.exit i) :: k) r t1 t2 t3 σ = exitT (exitTo i k) (fun k' => vcT P fn n k' r ⟨⟩ ⟨⟩ ⟨⟩ σ) ⟨⟩ ⟨⟩ := (rfl)
@[simp] theorem vc_goto {l : Nat} {t2} : vcT P fn (n + 1) (.code (.goto l) :: k) r t1 t2 t3 σ = exitT (gotoIn l k) (fun k' => goT P fn k' r ⟨⟩ ⟨⟩ ⟨⟩ σ) ⟨⟩ ⟨⟩ := (rfl)
def exT (b : Bool) (x y : Prop) (_ : Tok x) (_ : Tok y) : Prop := if b = true then x else y
@[simp] theorem exT_t {x y : Prop} {t1 t2} : exT true x y t1 t2 = x := by simp [exT]
@[simp] theorem exT_f {x y : Prop} {t1 t2} : exT false x y t1 t2 = y := by simp [exT]
@[simp] theorem pcOf_true {lp : Option LoopI} : pcOf true lp = .no := (rfl)
@[simp] theorem pcOf_false {lp : Option LoopI} : pcOf false lp = .yes lp := (rfl)
@[simp] theorem vc_rangeFunc {g : Operand} {ps : Array Tmp} {x y : Code} {t2} : vcT P fn (n + 1) (.code (.rangeFunc g ps x y) :: k) r t1 t2 t3 σ = goT P fn (.code (.rangeFunc g ps x y) :: k) r ⟨⟩ ⟨⟩ ⟨⟩ σ := (rfl)
@[simp] theorem vc_region {f : Func} {i : Nat} {L : List Oper} {d : Bool} {m : Nat} {lp : Option LoopI} {d0 : Bool} {t1 t2} : vcT P ⟨f, [], m, lp, d0⟩ (n + 1) (.code (.region i (List.toArray L) d) :: k) r t1 t2 t3 σ = opsT P (pcOf d lp) L L (fun σ' => vcT P ⟨f, [], m, lp, d0⟩ n k r ⟨⟩ ⟨⟩ ⟨⟩ σ') ⟨⟩ ⟨⟩ ⟨⟩ σ := (rfl)
@[simp] theorem vc_regionX {f : Func} {x : Nat} {ex : List Nat} {i : Nat} {L : List Oper} {d : Bool} {m : Nat} {lp : Option LoopI} {d0 : Bool} {t1 t2} : vcT P ⟨f, x :: ex, m, lp, d0⟩ (n + 1) (.code (.region i (List.toArray L) d) :: k) r t1 t2 t3 σ =
    exT ((x :: ex).contains i) (goT P ⟨f, x :: ex, m, lp, d0⟩ (.code (.region i (List.toArray L) d) :: k) r ⟨⟩ ⟨⟩ ⟨⟩ σ) (opsT P (pcOf d lp) L L (fun σ' => vcT P ⟨f, x :: ex, m, lp, d0⟩ n k r ⟨⟩ ⟨⟩ ⟨⟩ σ') ⟨⟩ ⟨⟩ ⟨⟩ σ) ⟨⟩ ⟨⟩ := (rfl)
@[simp] theorem exitT_same {i : Nat} {K : List Item → Prop} {t1 t2} : exitT (exitTo i (.inBlock i :: k)) K t1 t2 = K k := by simp [exitT, exitTo, bindV]
@[simp] theorem exitT_block {i j : Nat} {K : List Item → Prop} {t1 t2} (h : j ≠ i) : exitT (exitTo i (.inBlock j :: k)) K t1 t2 = exitT (exitTo i k) K ⟨⟩ ⟨⟩ := by simp [exitT, exitTo, h]
@[simp] theorem exitT_code {i : Nat} {c : Code} {K : List Item → Prop} {t1 t2} : exitT (exitTo i (.code c :: k)) K t1 t2 = exitT (exitTo i k) K ⟨⟩ ⟨⟩ := (rfl)
@[simp] theorem exitT_loop {i : Nat} {c : Code} {K : List Item → Prop} {t1 t2} : exitT (exitTo i (.inLoop c :: k)) K t1 t2 = exitT (exitTo i k) K ⟨⟩ ⟨⟩ := (rfl)
@[simp] theorem exitT_scope {i : Nat} {c : Code} {K : List Item → Prop} {t1 t2} : exitT (exitTo i (.inScope c :: k)) K t1 t2 = exitT (exitTo i k) K ⟨⟩ ⟨⟩ := (rfl)
@[simp] theorem opsV_nil {L : List Oper} {K : AS → Prop} {t1 t2 t3} : opsT P pc L [] K t1 t2 t3 σ = K σ := (rfl)
@[simp] theorem opsV_none {L os : List Oper} {dst : Option Tmp} {op : Op} {ty : TypeId} {pos : String} {aft : Array Edge} {K : AS → Prop} {t1 t2 t3} :
    opsT P pc L (⟨dst, op, ty, pos, aft, none⟩ :: os) K t1 t2 t3 σ = execT P pc ⟨dst, op, ty, pos, aft, none⟩ (fun σ' => opsT P pc L os K ⟨⟩ ⟨⟩ ⟨⟩ σ') ⟨⟩ ⟨⟩ σ := by
  simp [opsT, execT, opsV, guardA, guardV]
@[simp] theorem resF_val {a : AV} : resF P fn σ (.val a) = (resA P fn.fn σ = some a) := (rfl)
end
/-- The slot of the operation that a guard names. -/
def gslot (L : List Oper) (j : Nat) : Option Tmp := (L[j]?).bind (·.dst)
def gv (a : AV) (w : Bool) : Option Bool :=
  match a with
  | .bool b => some (b == w)
  | .tup [] => some false
  | _ => none
def gval (tm : Nat → AV) (t : Option Tmp) (want : Bool) : Option Bool :=
  match t with
  | some t => gv (tm t) want
  | none => none
def slotT (L : List Oper) (j : Nat) (K : Option Tmp → Prop) (_ : Tok L) (_ : Tok K) : Prop := K (gslot L j)
@[simp] theorem slotT_zero {o : Oper} {L : List Oper} {K : Option Tmp → Prop} {t1 t2} : slotT (o :: L) 0 K t1 t2 = K o.dst := (rfl)
@[simp] theorem slotT_succ {o : Oper} {L : List Oper} {j : Nat} {K : Option Tmp → Prop} {t1 t2} : slotT (o :: L) (j + 1) K t1 t2 = slotT L j K ⟨⟩ ⟨⟩ := (rfl)
@[simp] theorem opsV_some {pc : PC} {L os : List Oper} {dst : Option Tmp} {op : Op} {ty : TypeId} {pos : String} {aft : Array Edge} {j : Nat} {w : Bool} {σ : AS} {K : AS → Prop} {t1 t2 t3} :
    opsT P pc L (⟨dst, op, ty, pos, aft, some (j, w)⟩ :: os) K t1 t2 t3 σ =
      slotT L j (fun s => guardT (gval σ.tm s w) (execT P pc ⟨dst, op, ty, pos, aft, some (j, w)⟩ (fun σ' => opsT P pc L os K ⟨⟩ ⟨⟩ ⟨⟩ σ') ⟨⟩ ⟨⟩ σ) (opsT P pc L os K ⟨⟩ ⟨⟩ ⟨⟩ (σ.put dst (.tup []))) ⟨⟩ ⟨⟩) ⟨⟩ ⟨⟩ := (rfl)
@[simp] theorem gval_some {tm : Nat → AV} {t : Tmp} {w : Bool} : gval tm (some t) w = gv (tm t) w := (rfl)
@[simp] theorem gval_bool {b w : Bool} : gv (AV.bool b) w = some (b == w) := (rfl)
@[simp] theorem gval_skip {w : Bool} : gv (AV.tup []) w = some false := (rfl)
@[simp] theorem bindV_some {α : Type} {a : α} {K : α → Prop} {t} : bindT (some a) K t = K a := (rfl)
@[simp] theorem bindV_none {α : Type} {K : α → Prop} {t} : bindT none K t = False := (rfl)
@[simp] theorem boolV_t {x y : Prop} {t1 t2} : boolT (.bool true) x y t1 t2 = x := by simp [boolT, boolV]
@[simp] theorem boolV_f {x y : Prop} {t1 t2} : boolT (.bool false) x y t1 t2 = y := by simp [boolT, boolV]
@[simp] theorem guardV_t {x y : Prop} {t1 t2} : guardT (some true) x y t1 t2 = x := by simp [guardT, guardV]
@[simp] theorem guardV_f {x y : Prop} {t1 t2} : guardT (some false) x y t1 t2 = y := by simp [guardT, guardV]
@[simp] theorem put_some {tm : Nat → AV} {h : HP} {d : Tmp} {v : AV} : (AS.mk tm h).put (some d) v = ⟨upd tm d v, h⟩ := (rfl)
@[simp] theorem put_none {σ : AS} {v : AV} : σ.put none v = σ := (rfl)
@[simp] theorem ev_tmp {tm : Nat → AV} {h : HP} {t : Tmp} : (AS.mk tm h).ev (.tmp t) = tm t := (rfl)
@[simp] theorem ev_int {σ : AS} {k : IntKind} {n : Int} : σ.ev (.const (.int k n)) = .int k n := (rfl)
@[simp] theorem ev_bool {σ : AS} {b : Bool} : σ.ev (.const (.bool b)) = .bool b := (rfl)
@[simp] theorem ev_str {σ : AS} {s : ByteArray} : σ.ev (.const (.string s)) = .str s := (rfl)
@[simp] theorem ev_nils {σ : AS} : σ.ev (.const (.slice none 0 0)) = .nils := (rfl)
@[simp] theorem ev_func {σ : AS} {f : FuncId} : σ.ev (.func f) = .fn (.func f) [] [] := (rfl)
theorem upd_eq {α : Type} (f : Nat → α) (i j : Nat) (v : α) : upd f i v j = if j = i then v else f j := (rfl)

section
variable {pc : PC} {dst : Option Tmp} {ty : TypeId} {pos : String} {aft : Array Edge} {g : Option (Nat × Bool)} {σ : AS} {K : AS → Prop} {t2 : Tok K}
@[simp] theorem execV_call {f : Operand} {L : List Operand} {ts : Array TypeId} {t1} : execT P pc ⟨dst, .call { callee := .value f, args := List.toArray L, argTypes := ts }, ty, pos, aft, g⟩ K t1 t2 σ = callT P pc (σ.ev f) (L.map σ.ev) σ.h (fun r h' => K ((AS.mk σ.tm h').put dst r)) ⟨⟩ := (rfl)
@[simp] theorem execV_builtin {b : Builtin} {L : List Operand} {ts : List TypeId} {t1} : execT P pc ⟨dst, .call { callee := .builtin b, args := List.toArray L, argTypes := List.toArray ts }, ty, pos, aft, g⟩ K t1 t2 σ =
    bindT (bltA P b (L.map σ.ev) ts σ.h) (fun x => K ((AS.mk σ.tm x.2).put dst x.1)) ⟨⟩ := (rfl)
@[simp] theorem execV_move {x : Operand} {t1} : execT P pc ⟨dst, .move x, ty, pos, aft, g⟩ K t1 t2 σ = K (σ.put dst (σ.ev x)) := (rfl)
@[simp] theorem execV_assign {x : Operand} {t1} : execT P pc ⟨dst, .assign x, ty, pos, aft, g⟩ K t1 t2 σ = K (σ.put dst (σ.ev x)) := (rfl)
def pickA (c a b : AV) : Option AV :=
  match c with
  | .bool t => some (if t then a else b)
  | _ => none
@[simp] theorem pickA_bool {t : Bool} {a b : AV} : pickA (.bool t) a b = some (if t then a else b) := (rfl)
@[simp] theorem execV_pick {c a b : Operand} {t1} : execT P pc ⟨dst, .pick c a b, ty, pos, aft, g⟩ K t1 t2 σ = bindT (pickA (σ.ev c) (σ.ev a) (σ.ev b)) (fun v => K (σ.put dst v)) ⟨⟩ := by
  simp only [execT, bindT, execV, exec, pickA]
  cases σ.ev c <;> rfl
theorem bindV_map {α β : Type} {o : Option α} {f : α → β} {K : β → Prop} : bindV (o.map f) K = bindV o fun a => K (f a) := by cases o <;> rfl
theorem bindV_ty {α : Type} {t : TypeId} {f : TyI → Option α} {K : α → Prop} : bindV (withTy P t f) K = bindV (tyI P t) fun i => bindV (f i) K := by
  unfold withTy
  cases tyI P t <;> rfl
theorem bindV_some' {α : Type} {a : α} {K : α → Prop} : bindV (some a) K = K a := (rfl)
@[simp] theorem execV_alloc {t : TypeId} {t1} : execT P pc ⟨dst, .alloc t, ty, pos, aft, g⟩ K t1 t2 σ = bindT (tyI P t) (fun i => K ((AS.mk σ.tm (σ.h.add ⟨i.zero, true⟩)).put dst (.ptr σ.h.nt 0))) ⟨⟩ := by
  simp only [execT, bindT, execV, exec, bindV_ty, bindV_some']
@[simp] theorem execV_box {t : TypeId} {x : Operand} {t1} : execT P pc ⟨dst, .box t x, ty, pos, aft, g⟩ K t1 t2 σ = bindT (cellsA (σ.ev x)) (fun cs => K ((AS.mk σ.tm (σ.h.add ⟨cs, true⟩)).put dst (.ptr σ.h.nt 0))) ⟨⟩ := by
  simp only [execT, bindT, execV, exec, bindV_map]
@[simp] theorem execV_build {t : TypeId} {ps : List (Nat × Operand)} {t1} : execT P pc ⟨dst, .build t (List.toArray ps), ty, pos, aft, g⟩ K t1 t2 σ =
    bindT (tyI P t) (fun i => bindT (buildA i (ps.map fun p => (p.1, σ.ev p.2))) (fun v => K (σ.put dst v)) ⟨⟩) ⟨⟩ := by
  simp only [execT, bindT, execV, exec, bindV_ty, bindV_map, evParts]
@[simp] theorem execV_buildSlice {t : TypeId} {m : Nat} {ps : List (Nat × Operand)} {t1} : execT P pc ⟨dst, .buildSlice t m (List.toArray ps), ty, pos, aft, g⟩ K t1 t2 σ =
    bindT (tyI P t) (fun i => bindT (buildSliceA P i σ.h m (ps.map fun p => (p.1, σ.ev p.2))) (fun x => K ((AS.mk σ.tm x.2).put dst x.1)) ⟨⟩) ⟨⟩ := by
  simp only [execT, bindT, execV, exec, bindV_ty, evParts]
@[simp] theorem execV_load {t : TypeId} {x : Operand} {t1} : execT P pc ⟨dst, .load t x, ty, pos, aft, g⟩ K t1 t2 σ = bindT (tyI P t) (fun i => bindT (loadA i σ.h (σ.ev x)) (fun v => K (σ.put dst v)) ⟨⟩) ⟨⟩ := by
  simp only [execT, bindT, execV, exec, bindV_ty, bindV_map]
@[simp] theorem execV_store {t : TypeId} {a v : Operand} {t1} : execT P pc ⟨dst, .store t a v, ty, pos, aft, g⟩ K t1 t2 σ =
    bindT (tyI P t) (fun i => bindT (storeA i σ.h (σ.ev a) (σ.ev v)) (fun h' => K ((AS.mk σ.tm h').put dst .dead)) ⟨⟩) ⟨⟩ := by
  simp only [execT, bindT, execV, exec, bindV_ty, bindV_map]
@[simp] theorem execV_nilCheck {x : Operand} {t1} : execT P pc ⟨dst, .nilCheck x, ty, pos, aft, g⟩ K t1 t2 σ = bindT (nilA σ.h (σ.ev x)) (fun v => K (σ.put dst v)) ⟨⟩ := by
  simp only [execT, bindT, execV, exec, bindV_map]
@[simp] theorem execV_binOp {op : BinOp} {t t3 : TypeId} {x y : Operand} {t1} : execT P pc ⟨dst, .binOp op t x y t3, ty, pos, aft, g⟩ K t1 t2 σ = bindT (binA P op t (σ.ev x) (σ.ev y)) (fun v => K (σ.put dst v)) ⟨⟩ := by
  simp only [execT, bindT, execV, exec, bindV_map]
@[simp] theorem execV_unOp {op : UnOp} {t : TypeId} {x : Operand} {t1} : execT P pc ⟨dst, .unOp op t x, ty, pos, aft, g⟩ K t1 t2 σ = bindT (unA op (σ.ev x)) (fun v => K (σ.put dst v)) ⟨⟩ := by
  simp only [execT, bindT, execV, exec, bindV_map]
theorem execV_convert {s d : TypeId} {x : Operand} {t1} (hsd : s ≠ d) : execT P pc ⟨dst, .convert s d x, ty, pos, aft, g⟩ K t1 t2 σ =
    bindT (tyI P s) (fun i => bindT (tyI P d) (fun i2 => bindT (convA P i i2 σ.h (σ.ev x)) (fun v => K (σ.put dst v)) ⟨⟩) ⟨⟩) ⟨⟩ := by
  have : convOwn P s d σ.h (σ.ev x) = none := by unfold convOwn; rw [if_neg hsd]
  simp only [execT, bindT, execV, exec, this, bindV_ty, bindV_map]
def convT (o : Option (AV × HP)) (K : AV × HP → Prop) (K2 : Prop) (_ : Tok K) (_ : Tok K2) : Prop :=
  match o with
  | some r => K r
  | none => K2
@[simp] theorem convT_some {r : AV × HP} {K : AV × HP → Prop} {K2 : Prop} {t1 t2} : convT (some r) K K2 t1 t2 = K r := (rfl)
@[simp] theorem convT_none {K : AV × HP → Prop} {K2 : Prop} {t1 t2} : convT none K K2 t1 t2 = K2 := (rfl)
theorem execV_convertSame {s : TypeId} {x : Operand} {t1} : execT P pc ⟨dst, .convert s s x, ty, pos, aft, g⟩ K t1 t2 σ =
    convT (convOwn P s s σ.h (σ.ev x)) (fun r => K ((AS.mk σ.tm r.2).put dst r.1)) (bindT (tyI P s) (fun i => bindT (tyI P s) (fun i2 => bindT (convA P i i2 σ.h (σ.ev x)) (fun v => K (σ.put dst v)) ⟨⟩) ⟨⟩) ⟨⟩) ⟨⟩ ⟨⟩ := by
  simp only [execT, bindT, execV, exec]
  cases convOwn P s s σ.h (σ.ev x) with
  | some r => rfl
  | none => simp only [convT, bindV_ty, bindV_map]
@[simp] theorem execV_conv {s d : TypeId} {x : Operand} {t1} : execT P pc ⟨dst, .convert s d x, ty, pos, aft, g⟩ K t1 t2 σ =
    convT (convOwn P s d σ.h (σ.ev x)) (fun r => K ((AS.mk σ.tm r.2).put dst r.1)) (bindT (tyI P s) (fun i => bindT (tyI P d) (fun i2 => bindT (convA P i i2 σ.h (σ.ev x)) (fun v => K (σ.put dst v)) ⟨⟩) ⟨⟩) ⟨⟩) ⟨⟩ ⟨⟩ := by
  simp only [execT, bindT, execV, exec]
  cases convOwn P s d σ.h (σ.ev x) with
  | some r => rfl
  | none => simp only [convT, bindV_ty, bindV_map]
@[simp] theorem convOwn_int {s d : TypeId} {h : HP} {k : IntKind} {n : Int} : convOwn P s d h (.int k n) = none := by
  unfold convOwn; split
  · cases tyI P s <;> rfl
  · rfl
@[simp] theorem convOwn_str {s d : TypeId} {h : HP} {x : ByteArray} : convOwn P s d h (.str x) = none := by
  unfold convOwn; split
  · cases tyI P s <;> rfl
  · rfl
theorem convOwn_diff {s d : TypeId} {h : HP} {x : AV} (hsd : s ≠ d) : convOwn P s d h x = none := by unfold convOwn; rw [if_neg hsd]
@[simp] theorem execV_makeFunc {f : Fn} {a b : List Operand} {t1} : execT P pc ⟨dst, .makeFunc f (List.toArray a) (List.toArray b), ty, pos, aft, g⟩ K t1 t2 σ = K (σ.put dst (.fn f (a.map σ.ev) (b.map σ.ev))) := (rfl)
@[simp] theorem execV_makeSlice {t : TypeId} {l c : Operand} {t1} : execT P pc ⟨dst, .makeSlice t l c, ty, pos, aft, g⟩ K t1 t2 σ =
    bindT (tyI P t) (fun i => bindT (makeA P i σ.h (σ.ev l) (σ.ev c)) (fun x => K ((AS.mk σ.tm x.2).put dst x.1)) ⟨⟩) ⟨⟩ := by
  simp only [execT, bindT, execV, exec, bindV_ty]
@[simp] theorem execV_slice {t : TypeId} {x : Operand} {lo hi mx : Option Operand} {t1} : execT P pc ⟨dst, .slice t x lo hi mx, ty, pos, aft, g⟩ K t1 t2 σ =
    bindT (tyI P t) (fun i => bindT (sliceA i σ.h (σ.ev x) (lo.map σ.ev) (hi.map σ.ev) (mx.map σ.ev)) (fun v => K (σ.put dst v)) ⟨⟩) ⟨⟩ := by
  simp only [execT, bindT, execV, exec, bindV_ty, bindV_map]
@[simp] theorem execV_fieldAddr {t : TypeId} {x : Operand} {f : Nat} {t1} : execT P pc ⟨dst, .fieldAddr t x f, ty, pos, aft, g⟩ K t1 t2 σ = bindT (tyI P t) (fun i => bindT (fieldAddrA i σ.h f (σ.ev x)) (fun v => K (σ.put dst v)) ⟨⟩) ⟨⟩ := by
  simp only [execT, bindT, execV, exec, bindV_ty, bindV_map]
@[simp] theorem execV_field {t : TypeId} {x : Operand} {f : Nat} {t1} : execT P pc ⟨dst, .field t x f, ty, pos, aft, g⟩ K t1 t2 σ = bindT (tyI P t) (fun i => bindT (fieldA i f (σ.ev x)) (fun v => K (σ.put dst v)) ⟨⟩) ⟨⟩ := by
  simp only [execT, bindT, execV, exec, bindV_ty, bindV_map]
@[simp] theorem execV_indexAddr {t : TypeId} {x ix : Operand} {t1} : execT P pc ⟨dst, .indexAddr t x ix, ty, pos, aft, g⟩ K t1 t2 σ = bindT (tyI P t) (fun i => bindT (indexAddrA i σ.h (σ.ev x) (σ.ev ix)) (fun v => K (σ.put dst v)) ⟨⟩) ⟨⟩ := by
  simp only [execT, bindT, execV, exec, bindV_ty, bindV_map]
@[simp] theorem execV_index {t : TypeId} {x ix : Operand} {t1} : execT P pc ⟨dst, .index t x ix, ty, pos, aft, g⟩ K t1 t2 σ = bindT (tyI P t) (fun i => bindT (indexA i (σ.ev x) (σ.ev ix)) (fun v => K (σ.put dst v)) ⟨⟩) ⟨⟩ := by
  simp only [execT, bindT, execV, exec, bindV_ty, bindV_map]
@[simp] theorem execV_extract {x : Operand} {j : Nat} {t1} : execT P pc ⟨dst, .extract x j, ty, pos, aft, g⟩ K t1 t2 σ = bindT (extractA (σ.ev x) j) (fun v => K (σ.put dst v)) ⟨⟩ := by
  simp only [execT, bindT, execV, exec, bindV_map]
end

/-! ### What the prover says -/
theorem ASpec.startX (ex : List Nat) {f : FuncId} {fn : Func} {c : Code} {args : List AV} {r : AV} (n : Nat) (hf : P.funcs[f]? = some fn) (hb : fn.body = some c) (hnm : fn.name ≠ "runtime.NumGoroutine") (hm : P.follows .mixedOrders = true)
    (hok : okCode fn.ntmps ex c = true) (hlen : args.length ≤ fn.ntmps) (h : vcT P ⟨fn, ex, 0, none, false⟩ n [.code c] (.val r) ⟨⟩ ⟨⟩ ⟨⟩ (ini args)) : ASpec P f args r := ASpec.intro n hf hb hnm hm ex hok hlen h
theorem ASpec.start {f : FuncId} {fn : Func} {c : Code} {args : List AV} {r : AV} (n : Nat) (hf : P.funcs[f]? = some fn) (hb : fn.body = some c) (hnm : fn.name ≠ "runtime.NumGoroutine") (hm : P.follows .mixedOrders = true)
    (hok : okCode fn.ntmps [] c = true) (hlen : args.length ≤ fn.ntmps) (h : vcT P ⟨fn, [], 0, none, false⟩ n [.code c] (.val r) ⟨⟩ ⟨⟩ ⟨⟩ (ini args)) : ASpec P f args r := ASpec.intro n hf hb hnm hm [] hok hlen h
theorem goT_round (hm : P.follows .mixedOrders = true) {fn : FnE} {c : Code} {k : List Item} {σ : AS} {r : RV} {t1 t2 t3} (n : Nat) (h : vcT P fn n (.code c :: .inLoop c :: k) r ⟨⟩ ⟨⟩ ⟨⟩ σ) : goT P fn (.inLoop c :: k) r t1 t2 t3 σ :=
  GoA.round hm n h
theorem goT_run (hm : P.follows .mixedOrders = true) {fn : FnE} {k : List Item} {σ : AS} {r : RV} {t1 t2 t3} (n : Nat) (h : vcT P fn n k r ⟨⟩ ⟨⟩ ⟨⟩ σ) : goT P fn k r t1 t2 t3 σ := vc_sound hm n _ _ _ h
theorem goT_weak {fn : FnE} {todo : List Item} {σ : AS} {r : RV} {t1 t2 t3} (ρ : Nat → Nat) {l : List (Nat × AV)} {b : List (Nat × Blk)} {n : Nat} (hw : Weak ρ l b n σ) (h : goT P fn todo r ⟨⟩ ⟨⟩ ⟨⟩ (st l b n)) (hk0 : fn.k = 0 := by rfl) : goT P fn todo r t1 t2 t3 σ := GoA.weak hk0 ρ hw h
theorem goT_weak0 {fn : FnE} {todo : List Item} {σ : AS} {r : RV} {t1 t2 t3} {l : List (Nat × AV)} {b : List (Nat × Blk)} {n : Nat} (h : goT P fn todo r ⟨⟩ ⟨⟩ ⟨⟩ (st l b n)) (h1 : ∀ p ∈ l, p.2 = σ.tm p.1 ∧ refsLt n p.2 = true)
    (h2 : ∀ p ∈ b, p.1 < n ∧ refsLts n p.2.cs = true ∧ σ.h.bk p.1 = some p.2) (hk0 : fn.k = 0 := by rfl) : goT P fn todo r t1 t2 t3 σ := GoA.weak0 hk0 h1 h2 h
theorem callT_of {pc : PC} {g : FuncId} {args : List AV} {h : HP} {r : AV} {K : AV → HP → Prop} {t} (hS : ASpec P g args r) (hn : noRefs args = true) (hr : noRef r = true) (hK : K r h) : callT P pc (.fn (.func g) [] []) args h K t := CallV.of hS hn hr hK
theorem callT_view {pc : PC} {g : FuncId} {args : List AV} {h : HP} {r : AV} {K : AV → HP → Prop} {t} (hS : ASpec P g (args.map (Am.view h)) r) (hr : flat r = true) (hK : K r h) : callT P pc (.fn (.func g) [] []) args h K t := CallV.view hS hr hK
theorem callT_own {lp : Option LoopI} {g : FuncId} {first caps args : List AV} {h : HP} {Q : AV → HP → Prop} {K : AV → HP → Prop} {t} (hS : PSpec P g (first ++ args ++ caps) h Q) (hK : ∀ r h', h.nt ≤ h'.nt → Q r h' → K r h') : callT P (.yes lp) (.fn (.func g) first caps) args h K t := CallV.own hS hK
theorem callT_yield {L : LoopI} {args : List AV} {h : HP} {Q : HP → Prop} {K : AV → HP → Prop} {t} (hS : YSpec P L args h Q) (hK : ∀ h', h.nt ≤ h'.nt → Q h' → K (.bool true) h') : callT P (.yes (some L)) (.fn (.yield L.l) [] []) args h K t := CallV.yield hS hK
theorem boolT_split {b : Bool} {x y : Prop} {t1 t2} (h1 : b = true → x) (h2 : b = false → y) : boolT (.bool b) x y t1 t2 := ⟨h1, h2⟩
theorem guardT_split {b : Bool} {x y : Prop} {t1 t2} (h1 : b = true → x) (h2 : b = false → y) : guardT (some b) x y t1 t2 := ⟨h1, h2⟩
theorem goT_region2 (hm : P.follows .mixedOrders = true) (dyn : List (Tmp × Tmp)) {fn : FnE} {id : Nat} {L : List Oper} {k : List Item} {σ : AS} {r : RV} {t1 t2 t3} (n : Nat) (hok : regionOk2 fn.fn.ntmps L.toArray none dyn = true)
    (h : opsT P .no L L (fun σ' => dynOk dyn σ'.tm ∧ vcT P fn n k r ⟨⟩ ⟨⟩ ⟨⟩ σ') ⟨⟩ ⟨⟩ ⟨⟩ σ) : goT P fn (.code (.region id (List.toArray L) true) :: k) r t1 t2 t3 σ := by
  refine go_region2 dyn hm hok ?_
  have mono : ∀ (os : List Oper) (σ : AS) (K K' : AS → Prop), (∀ σ', K σ' → K' σ') → opsV P .no L os σ K → opsV P .no L os σ K' := by
    intro os σ K K' hK hv
    exact opsV_mono hK os σ hv
  exact mono L σ _ _ (fun σ' hσ => ⟨hσ.1, vc_sound hm n _ _ _ hσ.2⟩) h
theorem goT_region3 (hm : P.follows .mixedOrders = true) (q : Nat) {fn : FnE} {id : Nat} {L : List Oper} {k : List Item} {σ : AS} {r : RV} {t1 t2 t3} {o o' : Oper} {os2 : List Oper} (hok : regionOk2 fn.fn.ntmps L.toArray (some q) [] = true)
    (hla : lastOk L.toArray q = true) (hL : L.drop q = o :: o' :: os2) (ns : Nat) (ls : List (Nat × AV)) (bs : List (Nat × Blk)) (h : goT P fn k r ⟨⟩ ⟨⟩ ⟨⟩ (st ls bs ns))
    (h' : opsT P .no L (L.take q) (fun σ0 => opsT P .no L (o :: o' :: os2) (fun σ' => Weak (fun i => i) ls bs ns σ') ⟨⟩ ⟨⟩ ⟨⟩ σ0 ∧ opsT P .no L (o' :: o :: os2) (fun σ' => ∃ ρ, Weak ρ ls bs ns σ') ⟨⟩ ⟨⟩ ⟨⟩ σ0) ⟨⟩ ⟨⟩ ⟨⟩ σ) (hk0 : fn.k = 0 := by rfl) :
    goT P fn (.code (.region id (List.toArray L) true) :: k) r t1 t2 t3 σ := by
  refine go_region3 q hm hok hla hL (opsV_mono (fun σ0 h0 => ⟨opsV_mono (fun σ' hw => GoA.weak hk0 _ hw h) _ _ h0.1, opsV_mono (fun σ' hw => let ⟨ρ, hw⟩ := hw; GoA.weak hk0 ρ hw h) _ _ h0.2⟩) _ _ h')
end Go.Am

/-! 'Am', part 20: what the operations give at integers, arrays, structs. -/
namespace Go.Am
variable {P : Program}

/-! ### Integers -/
theorem w_u8 (n : Int) : IntKind.u8.wrap n = n % 256 := by simp [IntKind.wrap, IntKind.bits, IntKind.signed]
theorem w_u32 (n : Int) : IntKind.u32.wrap n = n % 4294967296 := by simp [IntKind.wrap, IntKind.bits, IntKind.signed]
theorem w_u64 (n : Int) : IntKind.u64.wrap n = n % 18446744073709551616 := by simp [IntKind.wrap, IntKind.bits, IntKind.signed]
theorem in_u8 {n : Int} (h0 : 0 ≤ n) (h1 : n < 256) : IntKind.u8.wrap n = n := by rw [w_u8]; omega
theorem in_u32 {n : Int} (h0 : 0 ≤ n) (h1 : n < 4294967296) : IntKind.u32.wrap n = n := by rw [w_u32]; omega
theorem in_u64 {n : Int} (h0 : 0 ≤ n) (h1 : n < 18446744073709551616) : IntKind.u64.wrap n = n := by rw [w_u64]; omega
theorem in_i64 {n : Int} (h0 : -9223372036854775808 ≤ n) (h1 : n < 9223372036854775808) : IntKind.i64.wrap n = n := by
  simp [IntKind.wrap, IntKind.bits, IntKind.signed]; omega

section
variable {i : TyI} {s b : Nat} {a : Bool} {z : List AV} {h : HP} {k q : IntKind} {t : TypeId} {x y : Int}
@[simp] theorem convA_int : convA P i ⟨s, b, a, z, .int k⟩ h (.int q x) = some (.int k (k.wrap x)) := (rfl)
@[simp] theorem binA_add : binA P .add t (.int k x) (.int k y) = some (.int k (k.wrap (x + y))) := by simp [binA, intA]
@[simp] theorem binA_sub : binA P .sub t (.int k x) (.int k y) = some (.int k (k.wrap (x - y))) := by simp [binA, intA]
@[simp] theorem binA_mul : binA P .mul t (.int k x) (.int k y) = some (.int k (k.wrap (x * y))) := by simp [binA, intA]
@[simp] theorem binA_and : binA P .and t (.int k x) (.int k y) = some (.int k (bitsA .and k x y)) := by simp [binA, intA]
@[simp] theorem binA_or : binA P .or t (.int k x) (.int k y) = some (.int k (bitsA .or k x y)) := by simp [binA, intA]
@[simp] theorem binA_xor : binA P .xor t (.int k x) (.int k y) = some (.int k (bitsA .xor k x y)) := by simp [binA, intA]
@[simp] theorem binA_andNot : binA P .andNot t (.int k x) (.int k y) = some (.int k (bitsA .andNot k x y)) := by simp [binA, intA]
@[simp] theorem binA_eql : binA P .eql t (.int k x) (.int k y) = some (.bool (x == y)) := by simp [binA, intA]
@[simp] theorem binA_neq : binA P .neq t (.int k x) (.int k y) = some (.bool (x != y)) := by simp [binA, intA]
@[simp] theorem binA_lss : binA P .lss t (.int k x) (.int k y) = some (.bool (decide (x < y))) := by simp [binA, intA]
@[simp] theorem binA_leq : binA P .leq t (.int k x) (.int k y) = some (.bool (decide (x ≤ y))) := by simp [binA, intA]
@[simp] theorem binA_gtr : binA P .gtr t (.int k x) (.int k y) = some (.bool (decide (y < x))) := by simp [binA, intA]
@[simp] theorem binA_geq : binA P .geq t (.int k x) (.int k y) = some (.bool (decide (y ≤ x))) := by simp [binA, intA]
theorem binA_quo (h0 : 0 ≤ x) (h1 : 0 < y) : binA P .quo t (.int k x) (.int k y) = some (.int k (k.wrap (x / y))) := by
  simp [binA, intA, show y ≠ 0 by omega, Int.tdiv_eq_ediv_of_nonneg h0]
theorem binA_rem (h0 : 0 ≤ x) (h1 : 0 < y) : binA P .rem t (.int k x) (.int k y) = some (.int k (x % y)) := by
  simp [binA, intA, show y ≠ 0 by omega, Int.tmod_eq_emod_of_nonneg h0]
theorem binA_shr (h0 : 0 ≤ y) : binA P .shr t (.int k x) (.int q y) = some (.int k (x / 2 ^ (min y.toNat k.bits))) := by
  simp [binA, h0, Int.fdiv_eq_ediv_of_nonneg x (show (0 : Int) ≤ 2 ^ (min y.toNat k.bits) from Int.le_of_lt (Int.pow_pos (by omega)))]
theorem binA_shl (h0 : 0 ≤ y) : binA P .shl t (.int k x) (.int q y) = some (.int k (k.wrap (x * 2 ^ (min y.toNat k.bits)))) := by
  simp [binA, h0]
@[simp] theorem binA_eqlb {x y : Bool} : binA P .eql t (.bool x) (.bool y) = if isBoolT P t = true then some (.bool (x == y)) else none := by simp [binA]
@[simp] theorem binA_neqb {x y : Bool} : binA P .neq t (.bool x) (.bool y) = if isBoolT P t = true then some (.bool (x != y)) else none := by simp [binA]
@[simp] theorem unA_not {x : Bool} : unA .not (.bool x) = some (.bool !x) := (rfl)
@[simp] theorem unA_neg : unA .neg (.int k x) = some (.int k (k.wrap (0 - x))) := (rfl)
@[simp] theorem unA_xor : unA .xor (.int k x) = some (.int k (bitsA .xor k (if k.signed then -1 else k.max) x)) := (rfl)
end

/-! ### Blocks -/
section
variable {bk : Nat → Option Blk} {nt : Nat} {k : Blk} {id off s b : Nat} {a : Bool} {z : List AV} {td : TD}
@[simp] theorem hp_add : (HP.mk bk nt).add k = ⟨upd bk nt (some k), nt + 1⟩ := (rfl)
/-- A block's cells at a place: what a load of n cells gives. -/
def segA (cs : List AV) (off n : Nat) : Option AV := if off + n ≤ cs.length then some (.agg ((cs.drop off).take n)) else none
@[simp] theorem segA_num {N : Nat} : segA (numL N) 0 8 = some (num N) := by simp [segA, num, List.take_of_length_le]
theorem segA_all {n : Nat} {cs : List AV} (h : cs.length = n) : segA cs 0 n = some (.agg cs) := by
  subst h; simp [segA]
def blkT {α : Type} (o : Option Blk) (f : Blk → Option α) : Option α := match o with | some k => f k | none => none
@[simp] theorem blkT_some {α : Type} {f : Blk → Option α} : blkT (some k) f = f k := (rfl)
@[simp] theorem load_agg : loadA ⟨s, b, true, z, td⟩ ⟨bk, nt⟩ (.ptr id off) = blkT (bk id) fun k => segA k.cs off s := by
  simp only [loadA, blkT, segA]
  cases bk id <;> rfl
@[simp] theorem load_leaf : loadA ⟨s, b, false, z, td⟩ ⟨bk, nt⟩ (.ptr id off) = blkT (bk id) fun k => k.cs[off]? := by
  simp only [loadA, blkT]
  cases bk id <;> rfl
@[simp] theorem load_rp {cs : List AV} {h : HP} : loadA ⟨s, b, false, z, td⟩ h (.rp cs) = cs[0]? := (rfl)
@[simp] theorem load_rpa {cs : List AV} {h : HP} : loadA ⟨s, b, true, z, td⟩ h (.rp cs) = segA cs 0 s := by simp [loadA, segA]
/-- A store of one cell. -/
theorem store_int {q : IntKind} {n : Int} : storeA ⟨1, b, a, z, td⟩ ⟨bk, nt⟩ (.ptr id off) (.int q n) = blkT (bk id) fun k => if off < k.cs.length then some ⟨upd bk id (some ⟨k.cs.set off (.int q n), k.fix⟩), nt⟩ else none := by
  simp only [storeA, blkT]
  cases bk id <;> simp [leafOk]
theorem store_bool {v : Bool} : storeA ⟨1, b, a, z, td⟩ ⟨bk, nt⟩ (.ptr id off) (.bool v) = blkT (bk id) fun k => if off < k.cs.length then some ⟨upd bk id (some ⟨k.cs.set off (.bool v), k.fix⟩), nt⟩ else none := by
  simp only [storeA, blkT]
  cases bk id <;> simp [leafOk]
theorem store_ro {n : Nat} {cs : List AV} : storeA ⟨1, b, a, z, td⟩ ⟨bk, nt⟩ (.ptr id off) (.ro n cs) = blkT (bk id) fun k => if off < k.cs.length then some ⟨upd bk id (some ⟨k.cs.set off (.ro n cs), k.fix⟩), nt⟩ else none := by
  simp only [storeA, blkT]
  cases bk id <;> simp [leafOk]
theorem store_str {v : ByteArray} : storeA ⟨1, b, a, z, td⟩ ⟨bk, nt⟩ (.ptr id off) (.str v) = blkT (bk id) fun k => if off < k.cs.length then some ⟨upd bk id (some ⟨k.cs.set off (.str v), k.fix⟩), nt⟩ else none := by
  simp only [storeA, blkT]
  cases bk id <;> simp [leafOk]
/-- A store of a whole number. -/
def putSeg (cs : List AV) (off : Nat) (vs : List AV) : Option (List AV) := if off + vs.length ≤ cs.length then some (cs.take off ++ vs ++ cs.drop (off + vs.length)) else none
theorem putSeg_all {cs vs : List AV} (h : cs.length = vs.length) : putSeg cs 0 vs = some vs := by
  simp [putSeg, h]
@[simp] theorem putSeg_num {A N : Nat} : putSeg (numL A) 0 (numL N) = some (numL N) := putSeg_all (by simp)
@[simp] theorem store_num {N : Nat} : storeA ⟨8, b, a, z, td⟩ ⟨bk, nt⟩ (.ptr id off) (num N) = blkT (bk id) fun k => (putSeg k.cs off (numL N)).map fun cs => ⟨upd bk id (some ⟨cs, k.fix⟩), nt⟩ := by
  simp only [storeA, blkT, num, putSeg]
  cases bk id with
  | none => rfl
  | some k =>
    simp only [numL_length, leaf_numL]
    by_cases h : off + 8 ≤ k.cs.length <;> simp [h]
theorem store_agg {vs : List AV} (hs : vs.length = s) (hl : vs.all leafOk = true) : storeA ⟨s, b, a, z, td⟩ ⟨bk, nt⟩ (.ptr id off) (.agg vs) = blkT (bk id) fun k => (putSeg k.cs off vs).map fun cs => ⟨upd bk id (some ⟨cs, k.fix⟩), nt⟩ := by
  subst hs
  simp only [storeA, blkT, putSeg]
  cases bk id with
  | none => rfl
  | some k => by_cases h : off + vs.length ≤ k.cs.length <;> simp [h, hl]

@[simp] theorem idx_int {q : IntKind} {x : Int} {n : Nat} : idx (.int q x) n = if 0 ≤ x ∧ x < n then some x.toNat else none := (rfl)
@[simp] theorem ixA_arr {n e es : Nat} {ea : Bool} {ix : AV} : indexAddrA ⟨s, b, a, z, .array n e es ea⟩ ⟨bk, nt⟩ (.ptr id off) ix = if (bk id).isSome = true then (idx ix n).map fun j => .ptr id (off + j * es) else none := (rfl)
@[simp] theorem ixA_ro {e es n eb : Nat} {ea : Bool} {ix : AV} {cs : List AV} {h : HP} : indexAddrA ⟨s, b, a, z, .slice e es ea eb⟩ h (.ro n cs) ix = if cs = [] then none else (idx ix n).map fun j => .rp (cs.drop (j * es)) := (rfl)
@[simp] theorem ixA_sl {e es n eb : Nat} {ea : Bool} {ix : AV} : indexAddrA ⟨s, b, a, z, .slice e es ea eb⟩ ⟨bk, nt⟩ (.sl id off es n) ix = if (bk id).isSome = true then (idx ix n).map fun j => .ptr id (off + j * es) else none := by
  simp [indexAddrA]
@[simp] theorem index_num {n e : Nat} {ix : AV} {N : Nat} : indexA ⟨s, b, a, z, .array n e 1 false⟩ (num N) ix = (idx ix n).bind fun j => (numL N)[j]? := by
  simp only [indexA, num, partA, Nat.mul_one]
  cases idx ix n <;> rfl
def nth {α : Type} (l : List α) (j : Nat) : Option α := l[j]?
@[simp] theorem nth_zero {α : Type} {a : α} {l : List α} : nth (a :: l) 0 = some a := (rfl)
@[simp] theorem nth_succ {α : Type} {a : α} {l : List α} {j : Nat} : nth (a :: l) (j + 1) = nth l j := (rfl)
@[simp] theorem extract_tup {vs : List AV} {j : Nat} : extractA (.tup vs) j = nth vs j := (rfl)
@[simp] theorem faA {fs : List (Nat × Nat × Bool)} {f : Nat} : fieldAddrA ⟨s, b, a, z, .struct fs⟩ ⟨bk, nt⟩ f (.ptr id off) = (nth fs f).bind fun p => if p.2.1 ≠ 0 ∧ (bk id).isSome = true then some (.ptr id (off + p.1)) else none := by
  simp only [fieldAddrA, nth]
  cases fs[f]? <;> rfl
@[simp] theorem nilA_ptr : nilA ⟨bk, nt⟩ (.ptr id off) = if (bk id).isSome = true then some (.ptr id off) else none := (rfl)
end
theorem numL_get {N i : Nat} (h : i < 8) : (numL N)[i]? = some (limbA N i) := famL_get _ _ _ h
attribute [simp] iniT_zero iniT_succ
@[simp] theorem bits_u8 : IntKind.u8.bits = 8 := (rfl)
@[simp] theorem bits_u32 : IntKind.u32.bits = 32 := (rfl)
@[simp] theorem bits_u64 : IntKind.u64.bits = 64 := (rfl)
@[simp] theorem bits_i64 : IntKind.i64.bits = 64 := (rfl)

/-! ### Results -/
def resL (P : Program) (σ : AS) (L : List ResultVar) : Option AV :=
  match resVars P σ L with
  | some [a] => some (view σ.h a)
  | some as => some (.tup (as.map (view σ.h)))
  | none => none
theorem resA_L {fn : Func} {L : List ResultVar} {σ : AS} (h : fn.results = List.toArray L) : resA P fn σ = resL P σ L := by
  unfold resA resL
  rw [h]
  rfl
def r1 (o : Option AV) (h : HP) : Option AV := o.map (view h)
def r2 (o p : Option AV) (h : HP) : Option AV := match o, p with | some a, some b => some (.tup [view h a, view h b]) | _, _ => none
def r3 (o p q : Option AV) (h : HP) : Option AV := match o, p, q with | some a, some b, some c => some (.tup [view h a, view h b, view h c]) | _, _, _ => none
@[simp] theorem resL_1 {σ : AS} {a : ResultVar} : resL P σ [a] = r1 (resVar P σ a) σ.h := by
  unfold resL resVars r1
  cases resVar P σ a <;> rfl
@[simp] theorem resL_2 {σ : AS} {a b : ResultVar} : resL P σ [a, b] = r2 (resVar P σ a) (resVar P σ b) σ.h := by
  unfold resL resVars resVars resVars r2
  cases resVar P σ a <;> cases resVar P σ b <;> rfl
@[simp] theorem resL_3 {σ : AS} {a b c : ResultVar} : resL P σ [a, b, c] = r3 (resVar P σ a) (resVar P σ b) (resVar P σ c) σ.h := by
  unfold resL resVars resVars resVars resVars r3
  cases resVar P σ a <;> cases resVar P σ b <;> cases resVar P σ c <;> rfl
@[simp] theorem resVar_tmp {σ : AS} {t : Tmp} : resVar P σ (.tmp t) = some (σ.tm t) := (rfl)
@[simp] theorem resVar_cell {σ : AS} {a : Tmp} {t : TypeId} : resVar P σ (.cell a t) = (tyI P t).bind fun i => loadA i σ.h (σ.tm a) := by
  simp only [resVar, withTy]
  cases tyI P t <;> rfl
@[simp] theorem r1_some {a : AV} {h : HP} : r1 (some a) h = some (view h a) := (rfl)
@[simp] theorem r2_some {a b : AV} {h : HP} : r2 (some a) (some b) h = some (.tup [view h a, view h b]) := (rfl)
@[simp] theorem r3_some {a b c : AV} {h : HP} : r3 (some a) (some b) (some c) h = some (.tup [view h a, view h b, view h c]) := (rfl)
@[simp] theorem view_int {h : HP} {k : IntKind} {n : Int} : view h (.int k n) = .int k n := (rfl)
@[simp] theorem view_bool {h : HP} {b : Bool} : view h (.bool b) = .bool b := (rfl)
@[simp] theorem view_str {h : HP} {s : ByteArray} : view h (.str s) = .str s := (rfl)
@[simp] theorem view_ro {h : HP} {n : Nat} {cs : List AV} : view h (.ro n cs) = .ro n cs := (rfl)
@[simp] theorem view_nils {h : HP} : view h .nils = .nils := (rfl)
@[simp] theorem noBk_eq (i : Nat) : noBk i = none := (rfl)
end Go.Am

/-! 'Am', part 21: loops. -/
namespace Go.Am
variable {P : Program}

def bkl (b : List (Nat × Blk)) (t : Nat) : Option Blk := lk none (b.map fun p => (p.1, some p.2)) t
theorem st_eq (l : List (Nat × AV)) (b : List (Nat × Blk)) (n : Nat) : st l b n = ⟨lk .dead l, ⟨bkl b, n⟩⟩ := (rfl)
@[simp] theorem bkl_nil {t : Nat} : bkl [] t = none := (rfl)
@[simp] theorem bkl_cons {p : Nat × Blk} {b : List (Nat × Blk)} {t : Nat} : bkl (p :: b) t = if t = p.1 then some p.2 else bkl b t := (rfl)
@[simp] theorem lk_nil {α : Type} {d : α} {t : Nat} : lk d [] t = d := (rfl)
@[simp] theorem lk_cons {α : Type} {d v : α} {k t : Nat} {l : List (Nat × α)} : lk d ((k, v) :: l) t = if t = k then v else lk d l t := (rfl)

/-- The state σ is at least 'st l b n'. -/
def Has (l : List (Nat × AV)) (b : List (Nat × Blk)) (n : Nat) (σ : AS) : Prop :=
  (∀ p ∈ l, p.2 = σ.tm p.1 ∧ refsLt n p.2 = true) ∧ (∀ p ∈ b, p.1 < n ∧ refsLts n p.2.cs = true ∧ σ.h.bk p.1 = some p.2)

theorem goT_has {fn : FnE} {todo : List Item} {σ : AS} {r : RV} {t1 t2 t3} {l : List (Nat × AV)} {b : List (Nat × Blk)} {n : Nat} (h : goT P fn todo r ⟨⟩ ⟨⟩ ⟨⟩ (st l b n)) (hh : Has l b n σ) (hk0 : fn.k = 0 := by rfl) : goT P fn todo r t1 t2 t3 σ := goT_weak0 h hh.1 hh.2 hk0

/-- A loop that counts i from 0 to M. -/
theorem goT_count {fn : FnE} {todo : List Item} {σ : AS} {r : RV} {t1 t2 t3} (l : Nat → List (Nat × AV)) (b : Nat → List (Nat × Blk)) (nt M : Nat)
    (round : ∀ i, i < M → (∀ σ', Has (l (i + 1)) (b (i + 1)) nt σ' → goT P fn todo r ⟨⟩ ⟨⟩ ⟨⟩ σ') → goT P fn todo r ⟨⟩ ⟨⟩ ⟨⟩ (st (l i) (b i) nt))
    (last : goT P fn todo r ⟨⟩ ⟨⟩ ⟨⟩ (st (l M) (b M) nt)) (h0 : Has (l 0) (b 0) nt σ) (hk0 : fn.k = 0 := by rfl) : goT P fn todo r t1 t2 t3 σ := by
  have key : ∀ d i, i + d = M → goT P fn todo r ⟨⟩ ⟨⟩ ⟨⟩ (st (l i) (b i) nt) := by
    intro d
    induction d with
    | zero => intro i hi; obtain rfl : i = M := by omega
              exact last
    | succ d ih => intro i hi; exact round i (by omega) fun σ' h => goT_has (ih (i + 1) (by omega)) h hk0
  exact goT_has (key M 0 (by omega)) h0 hk0

/-- A loop by a measure: at every d the state has S d; a round goes to a smaller one or ends. -/
theorem goT_down {fn : FnE} {todo : List Item} {σ : AS} {r : RV} {t1 t2 t3} {X : Type} (μ : X → Nat) (l : X → List (Nat × AV)) (b : X → List (Nat × Blk)) (nt : Nat) (I : X → Prop)
    (round : ∀ x, I x → (∀ y σ', I y → μ y < μ x → Has (l y) (b y) nt σ' → goT P fn todo r ⟨⟩ ⟨⟩ ⟨⟩ σ') → goT P fn todo r ⟨⟩ ⟨⟩ ⟨⟩ (st (l x) (b x) nt))
    (x0 : X) (hI : I x0) (h0 : Has (l x0) (b x0) nt σ) (hk0 : fn.k = 0 := by rfl) : goT P fn todo r t1 t2 t3 σ := by
  have key : ∀ n x, μ x = n → I x → goT P fn todo r ⟨⟩ ⟨⟩ ⟨⟩ (st (l x) (b x) nt) := by
    intro n
    induction n using Nat.strongRecOn with
    | _ n ih => intro x hx hi; exact round x hi fun y σ' hy hlt h => goT_has (ih (μ y) (by omega) y rfl hy) h hk0
  exact goT_has (key _ x0 rfl hI) h0 hk0

/-! ### An array that is filled from below -/
def mixL (f g : Nat → AV) (n i : Nat) : List AV := famL (fun j => if j < i then f j else g j) n
@[simp] theorem mixL_length (f g : Nat → AV) (n i : Nat) : (mixL f g n i).length = n := by simp [mixL]
theorem mixL_zero (f g : Nat → AV) (n : Nat) : mixL f g n 0 = famL g n := by simp [mixL]
theorem mixL_all (f g : Nat → AV) (n : Nat) : mixL f g n n = famL f n := famL_congr fun i hi => by simp [hi]
theorem mixL_get {f g : Nat → AV} {n i : Nat} (h : i < n) : (mixL f g n i)[i]? = some (g i) := by rw [mixL, famL_get _ _ _ h]; simp
theorem mixL_set {f g : Nat → AV} {n i : Nat} {v : AV} (hv : v = f i) : (mixL f g n i).set i v = mixL f g n (i + 1) := by
  subst hv
  rw [mixL, famL_set]
  refine famL_congr fun j _ => ?_
  unfold upd
  by_cases h1 : j = i
  · subst h1; simp
  · by_cases h2 : j < i
    · simp [h1, h2, show j < i + 1 by omega]
    · simp [h1, h2, show ¬ j < i + 1 by omega]
theorem refsLts_mixL {f g : Nat → AV} {n i m : Nat} (hf : ∀ j, refsLt m (f j) = true) (hg : ∀ j, refsLt m (g j) = true) : refsLts m (mixL f g n i) = true :=
  refsLts_famL fun j _ => by split <;> simp [hf, hg]
/-- numbers -/
noncomputable def mixN (S A i : Nat) : List AV := mixL (limbA S) (limbA A) 8 i
@[simp] theorem mixN_length (S A i : Nat) : (mixN S A i).length = 8 := by simp [mixN]
@[simp] theorem mixN_zero (S A : Nat) : mixN S A 0 = numL A := mixL_zero _ _ _
@[simp] theorem mixN_all (S A : Nat) : mixN S A 8 = numL S := mixL_all _ _ _
theorem mixN_get {S A i : Nat} (h : i < 8) : (mixN S A i)[i]? = some (limbA A i) := mixL_get h
theorem mixN_set {S A i : Nat} {v : AV} (hv : v = limbA S i) : (mixN S A i).set i v = mixN S A (i + 1) := mixL_set hv
@[simp] theorem refsLts_mixN (m S A i : Nat) : refsLts m (mixN S A i) = true := refsLts_mixL (fun _ => rfl) (fun _ => rfl)

theorem limb_lt (N i : Nat) : limb N i < 4294967296 := by rw [limb_def]; exact Nat.mod_lt _ (by decide)
theorem limbA_def (N i : Nat) : limbA N i = .int .u32 (limb N i : Nat) := (rfl)

/-! ### Carries -/
def carry (A B i : Nat) : Nat := (A % 2 ^ (32 * i) + B % 2 ^ (32 * i)) / 2 ^ (32 * i)
theorem carry_zero (A B : Nat) : carry A B 0 = 0 := by simp [carry, Nat.mod_one]
theorem mod_step (A i : Nat) : A % 2 ^ (32 * (i + 1)) = A % 2 ^ (32 * i) + 2 ^ (32 * i) * limb A i := by
  rw [limb_def]
  rw [show 32 * (i + 1) = 32 * i + 32 by omega, Nat.pow_add, Nat.mod_mul]
theorem carry_le (A B i : Nat) : carry A B i ≤ 1 := by
  unfold carry
  have h0 : 0 < 2 ^ (32 * i) := Nat.two_pow_pos _
  have h1 := Nat.mod_lt A h0
  have h2 := Nat.mod_lt B h0
  have : (A % 2 ^ (32 * i) + B % 2 ^ (32 * i)) / 2 ^ (32 * i) < 2 := Nat.div_lt_of_lt_mul (by omega)
  omega
theorem carry_sum (A B i : Nat) : A % 2 ^ (32 * i) + B % 2 ^ (32 * i) = (A + B) % 2 ^ (32 * i) + 2 ^ (32 * i) * carry A B i := by
  have h := Nat.mod_add_div (A % 2 ^ (32 * i) + B % 2 ^ (32 * i)) (2 ^ (32 * i))
  rw [← Nat.add_mod] at h
  unfold carry
  omega
theorem carry_step (A B i : Nat) : limb A i + limb B i + carry A B i = limb (A + B) i + 4294967296 * carry A B (i + 1) := by
  have h0 := carry_sum A B i
  have h1 := carry_sum A B (i + 1)
  rw [mod_step A i, mod_step B i, mod_step (A + B) i] at h1
  have hp : 2 ^ (32 * (i + 1)) = 2 ^ (32 * i) * 4294967296 := by rw [show 32 * (i + 1) = 32 * i + 32 by omega, Nat.pow_add]
  rw [hp] at h1
  have h2 : 0 < 2 ^ (32 * i) := Nat.two_pow_pos _
  generalize 2 ^ (32 * i) = q at *
  have : q * (limb A i + limb B i + carry A B i) = q * (limb (A + B) i + 4294967296 * carry A B (i + 1)) := by
    rw [Nat.mul_add, Nat.mul_add, Nat.mul_add, ← Nat.mul_assoc q 4294967296]
    omega
  exact Nat.eq_of_mul_eq_mul_left h2 this
end Go.Am

/-! 'Am', part 22: what slices, copy, append, len give. -/
namespace Go.Am
variable {P : Program}
section
variable {bk : Nat → Option Blk} {nt : Nat} {id off s b : Nat} {a : Bool} {z : List AV}
@[simp] theorem bnd_none {d l : Nat} : bnd none d l = some d := (rfl)
@[simp] theorem bnd_int {k : IntKind} {i : Int} {d l : Nat} : bnd (some (.int k i)) d l = if 0 ≤ i ∧ i ≤ l then some i.toNat else none := (rfl)
@[simp] theorem sliceA_arr {n e es : Nat} {ea : Bool} {lo hi mx : Option AV} : sliceA ⟨s, b, a, z, .array n e es ea⟩ ⟨bk, nt⟩ (.ptr id off) lo hi mx =
    blkT (bk id) fun k => if off + n * es ≤ k.cs.length ∧ (hi = none → mx = none) then (bnd mx n n).bind fun mB => (bnd hi n mB).bind fun hB => (bnd lo 0 hB).map fun l => winA id off es l hB else none := by
  simp only [sliceA, blkT]
  cases bk id with
  | none => rfl
  | some k =>
    simp only
    congr 1
    cases bnd mx n n with
    | none => rfl
    | some mB =>
      simp only [Option.bind_some]
      cases bnd hi n mB with
      | none => rfl
      | some hB =>
        simp only [Option.bind_some]
        cases bnd lo 0 hB <;> rfl
@[simp] theorem sliceA_sl {n e es eb : Nat} {ea : Bool} {lo hi mx : Option AV} : sliceA ⟨s, b, a, z, .slice e es ea eb⟩ ⟨bk, nt⟩ (.sl id off es n) lo hi mx =
    if (bk id).isSome = true ∧ (hi = none → mx = none) then (bnd mx n n).bind fun mB => (bnd hi n mB).bind fun hB => (bnd lo 0 hB).map fun l => winA id off es l hB else none := by
  simp only [sliceA, true_and]
  congr 1
  cases bnd mx n n with
  | none => rfl
  | some mB =>
    simp only [Option.bind_some]
    cases bnd hi n mB with
    | none => rfl
    | some hB =>
      simp only [Option.bind_some]
      cases bnd lo 0 hB <;> rfl
@[simp] theorem winA_zero {es h : Nat} : winA id off es 0 h = .sl id off es h := (rfl)
theorem winA_mid {es l h : Nat} (h0 : 0 < l) (h1 : l < h) : winA id off es l h = .sl id (off + l * es) es (h - l) := by
  simp [winA, show l ≠ 0 by omega, h1]
theorem winA_end {es l : Nat} (h0 : 0 < l) : winA id off es l l = .ro 0 [] := by
  simp [winA, show l ≠ 0 by omega]
@[simp] theorem blt_len {x : AV} {t : TypeId} {h : HP} : bltA P .len [x] [t] h = (tyI P t).bind fun i => (lenA i h x).map fun (n : Nat) => (.int .i64 (n : Int), h) := by
  simp only [bltA, withTy]
  cases tyI P t <;> rfl
@[simp] theorem blt_copy {x y : AV} {t t2 : TypeId} {h : HP} : bltA P .copy [x, y] [t, t2] h = (tyI P t).bind fun i => copyA i h x y := by
  simp only [bltA, withTy]
  cases tyI P t <;> rfl
@[simp] theorem blt_append {x y : AV} {t t2 : TypeId} {h : HP} : bltA P .append [x, y] [t, t2] h = (tyI P t).bind fun i => (tyI P t2).bind fun i2 => appendA P i i2 h x y := by
  simp only [bltA, withTy]
  cases tyI P t <;> cases tyI P t2 <;> rfl
/-- A copy of as many elements as the place has. -/
theorem copy_all {n e es eb m : Nat} {ea f : Bool} {cs new : List AV} {src : AV} (hb : bk id = some ⟨cs, f⟩) (hl : off + n * es ≤ cs.length) (hs : srcA es ⟨bk, nt⟩ src = some (m, new)) (hm : n ≤ m) (ha : new.all leafOk = true) :
    copyA ⟨s, b, a, z, .slice e es ea eb⟩ ⟨bk, nt⟩ (.sl id off es n) src = some (.int .i64 (n : Nat), ⟨upd bk id (some ⟨cs.take off ++ new.take (n * es) ++ cs.drop (off + n * es), f⟩), nt⟩) := by
  have h1 : Nat.min m n = n := Nat.min_eq_right hm
  have h2 := srcA_length hs
  have h3 : (new.take (n * es)).length = n * es := by
    rw [List.length_take, h2]
    exact Nat.min_eq_left (Nat.mul_le_mul_right _ hm)
  simp only [copyA, hb, hs, true_and, hl, ha, h1, h3, if_true]
end
theorem famL_take {f : Nat → AV} {n k : Nat} (h : k ≤ n) : (famL f n).take k = famL f k := by
  unfold famL
  rw [← List.map_take, List.take_range, Nat.min_eq_left h]
theorem famL_drop {f : Nat → AV} {n k : Nat} : (famL f n).drop k = famL (fun i => f (k + i)) (n - k) := by
  apply List.ext_getElem?
  intro j
  rw [List.getElem?_drop]
  by_cases hj : j < n - k
  · rw [famL_get _ _ _ (by omega), famL_get _ _ _ hj]
  · rw [List.getElem?_eq_none (by simp; omega), List.getElem?_eq_none (by simp; omega)]
end Go.Am

/-! 'Am', part 22: the bit operators at numbers that are not below 0. -/
namespace Go.Am

theorem ofInt_nat {w a : Nat} (h : a < 2 ^ w) : (BitVec.ofInt w (a : Int)).toNat = a := by
  rw [BitVec.ofInt_natCast, BitVec.toNat_ofNat]; exact Nat.mod_eq_of_lt h
def unsig : IntKind → Bool
  | .u8 | .u16 | .u32 | .u64 => true
  | _ => false
theorem wrap_uns {k : IntKind} (hk : unsig k = true) {a : Nat} (h : a < 2 ^ k.bits) : k.wrap (a : Int) = a := by
  cases k <;> simp [unsig] at hk <;> simp [IntKind.wrap, IntKind.bits, IntKind.signed] at * <;> omega
theorem band_u {k : IntKind} (hk : unsig k = true) {a b : Nat} (ha : a < 2 ^ k.bits) (hb : b < 2 ^ k.bits) : bitsA .and k a b = ((a &&& b : Nat) : Int) := by
  simp only [bitsA, BitVec.toNat_and, ofInt_nat ha, ofInt_nat hb]
  exact wrap_uns hk (Nat.and_lt_two_pow _ hb)
theorem bor_u {k : IntKind} (hk : unsig k = true) {a b : Nat} (ha : a < 2 ^ k.bits) (hb : b < 2 ^ k.bits) : bitsA .or k a b = ((a ||| b : Nat) : Int) := by
  simp only [bitsA, BitVec.toNat_or, ofInt_nat ha, ofInt_nat hb]
  exact wrap_uns hk (Nat.or_lt_two_pow ha hb)
theorem bxor_u {k : IntKind} (hk : unsig k = true) {a b : Nat} (ha : a < 2 ^ k.bits) (hb : b < 2 ^ k.bits) : bitsA .xor k a b = ((a ^^^ b : Nat) : Int) := by
  simp only [bitsA, BitVec.toNat_xor, ofInt_nat ha, ofInt_nat hb]
  exact wrap_uns hk (Nat.xor_lt_two_pow ha hb)
theorem band32 {a b : Nat} (ha : a < 4294967296) (hb : b < 4294967296) : bitsA .and .u32 a b = ((a &&& b : Nat) : Int) := band_u rfl ha hb
theorem bor32 {a b : Nat} (ha : a < 4294967296) (hb : b < 4294967296) : bitsA .or .u32 a b = ((a ||| b : Nat) : Int) := bor_u rfl ha hb
theorem bxor32 {a b : Nat} (ha : a < 4294967296) (hb : b < 4294967296) : bitsA .xor .u32 a b = ((a ^^^ b : Nat) : Int) := bxor_u rfl ha hb
theorem band64 {a b : Nat} (ha : a < 18446744073709551616) (hb : b < 18446744073709551616) : bitsA .and .u64 a b = ((a &&& b : Nat) : Int) := band_u rfl ha hb
theorem bor64 {a b : Nat} (ha : a < 18446744073709551616) (hb : b < 18446744073709551616) : bitsA .or .u64 a b = ((a ||| b : Nat) : Int) := bor_u rfl ha hb
theorem bxor8 {a b : Nat} (ha : a < 256) (hb : b < 256) : bitsA .xor .u8 a b = ((a ^^^ b : Nat) : Int) := bxor_u rfl ha hb
theorem bor8 {a b : Nat} (ha : a < 256) (hb : b < 256) : bitsA .or .u8 a b = ((a ||| b : Nat) : Int) := bor_u rfl ha hb
theorem wrap_i64n {a : Nat} (h : a < 9223372036854775808) : IntKind.i64.wrap (a : Int) = a := in_i64 (by omega) (by omega)
theorem bor_i64 {a b : Nat} (ha : a < 9223372036854775808) (hb : b < 9223372036854775808) : bitsA .or .i64 a b = ((a ||| b : Nat) : Int) := by
  show IntKind.i64.wrap ((BitVec.ofInt 64 (a : Int) ||| BitVec.ofInt 64 (b : Int)).toNat : Int) = _
  rw [BitVec.toNat_or, ofInt_nat (by omega), ofInt_nat (by omega)]
  exact wrap_i64n (Nat.or_lt_two_pow (n := 63) ha hb)
theorem band_i64 {a b : Nat} (ha : a < 9223372036854775808) (hb : b < 9223372036854775808) : bitsA .and .i64 a b = ((a &&& b : Nat) : Int) := by
  show IntKind.i64.wrap ((BitVec.ofInt 64 (a : Int) &&& BitVec.ofInt 64 (b : Int)).toNat : Int) = _
  rw [BitVec.toNat_and, ofInt_nat (by omega), ofInt_nat (by omega)]
  exact wrap_i64n (Nat.and_lt_two_pow (n := 63) a hb)
/-- ^x -/
theorem bnot32 {a : Nat} (ha : a < 4294967296) : bitsA .xor .u32 4294967295 a = ((4294967295 - a : Nat) : Int) := by
  have h := bxor32 (a := 4294967295) (b := a) (by decide) ha
  have e : (4294967295 : Nat) ^^^ a = 4294967295 - a := by
    apply Nat.eq_of_testBit_eq
    intro i
    have h1 : (4294967295 : Nat) - a = 2 ^ 32 - (a + 1) := by omega
    rw [h1, Nat.testBit_two_pow_sub_succ (by omega), Nat.testBit_xor, show (4294967295 : Nat) = 2 ^ 32 - 1 from rfl, Nat.testBit_two_pow_sub_one]
    by_cases hi : i < 32
    · simp [hi]
    · have hb : a.testBit i = false := Nat.testBit_lt_two_pow (Nat.lt_of_lt_of_le ha (Nat.pow_le_pow_right (show 0 < 2 by decide) (show 32 ≤ i by omega)))
      simp [hi, hb]
  rw [e] at h
  exact h
theorem top_bit {n : Nat} (h : n < 4294967296) : n / 2147483648 = (n.testBit 31).toNat := by
  rw [Nat.testBit_eq_decide_div_mod_eq]
  have : n / 2 ^ 31 < 2 := by rw [show (2 : Nat) ^ 31 = 2147483648 from rfl]; omega
  rw [show (2 : Nat) ^ 31 = 2147483648 from rfl] at *
  by_cases h1 : n / 2147483648 = 1
  · simp [h1]
  · have : n / 2147483648 = 0 := by omega
    simp [this]
theorem testBit31 {n : Nat} (h : n < 4294967296) : n.testBit 31 = decide (2147483648 ≤ n) := by
  rw [Nat.testBit_eq_decide_div_mod_eq, show (2 : Nat) ^ 31 = 2147483648 from rfl]
  by_cases h1 : 2147483648 ≤ n
  · have : n / 2147483648 = 1 := by omega
    simp [h1, this]
  · have : n / 2147483648 = 0 := by omega
    simp [h1, this]
/-- The borrow of a difference of 32 bits. -/
theorem borrow32 {x y b : Nat} (hx : x < 4294967296) (hy : y < 4294967296) (hb : b ≤ 1) :
    (((4294967295 - x) &&& y) ||| ((4294967295 - (x ^^^ y)) &&& ((x + 8589934592 - y - b) % 4294967296))) / 2147483648 = if x < y + b then 1 else 0 := by
  have hxy : x ^^^ y < 4294967296 := Nat.xor_lt_two_pow (n := 32) hx hy
  have hd : (x + 8589934592 - y - b) % 4294967296 < 4294967296 := Nat.mod_lt _ (by decide)
  rw [top_bit (Nat.or_lt_two_pow (n := 32) (Nat.and_lt_two_pow _ hy) (Nat.and_lt_two_pow _ hd))]
  rw [Nat.testBit_or, Nat.testBit_and, Nat.testBit_and]
  have n1 : ∀ a, a < 4294967296 → (4294967295 - a).testBit 31 = !a.testBit 31 := fun a ha => by
    rw [testBit31 (by omega), testBit31 ha]
    by_cases h : 2147483648 ≤ a
    · simp [h]; omega
    · simp [h]; omega
  rw [n1 x hx, n1 _ hxy, Nat.testBit_xor, testBit31 hx, testBit31 hy, testBit31 hd]
  by_cases h1 : 2147483648 ≤ x <;> by_cases h2 : 2147483648 ≤ y <;> by_cases h3 : 2147483648 ≤ (x + 8589934592 - y - b) % 4294967296 <;> by_cases h4 : x < y + b <;> simp [h1, h2, h3, h4] <;> omega
end Go.Am

/-! 'Am', part 24: loops whose blocks move; slices that are shown; append. -/
namespace Go.Am
variable {P : Program}

/-- A loop by a measure; a round's end may have its blocks elsewhere. -/
theorem goT_downR {fn : FnE} {todo : List Item} {σ : AS} {r : RV} {t1 t2 t3} {X : Type} (μ : X → Nat) (l : X → List (Nat × AV)) (b : X → List (Nat × Blk)) (nt : Nat) (I : X → Prop)
    (round : ∀ x, I x → (∀ y σ' ρ, I y → μ y < μ x → Weak ρ (l y) (b y) nt σ' → goT P fn todo r ⟨⟩ ⟨⟩ ⟨⟩ σ') → goT P fn todo r ⟨⟩ ⟨⟩ ⟨⟩ (st (l x) (b x) nt))
    (x0 : X) (ρ : Nat → Nat) (hI : I x0) (h0 : Weak ρ (l x0) (b x0) nt σ) (hk0 : fn.k = 0 := by rfl) : goT P fn todo r t1 t2 t3 σ := by
  have key : ∀ n x, μ x = n → I x → goT P fn todo r ⟨⟩ ⟨⟩ ⟨⟩ (st (l x) (b x) nt) := by
    intro n
    induction n using Nat.strongRecOn with
    | _ n ih => intro x hx hi; exact round x hi fun y σ' ρ hy hlt h => goT_weak ρ h (ih (μ y) (by omega) y rfl hy) hk0
  exact goT_weak ρ h0 (key _ x0 rfl hI) hk0

/-- The state σ is at least τ: numbers of blocks as they are. -/
structure Sub (σ τ : AS) : Prop where
  nt : σ.h.nt ≤ τ.h.nt
  tm : ∀ t, τ.tm t = .dead ∨ τ.tm t = σ.tm t
  bk : ∀ id b, τ.h.bk id = some b → σ.h.bk id = some b
/-- slots by a list, blocks as they are -/
def stH (l : List (Nat × AV)) (h : HP) : AS := ⟨lk .dead l, h⟩
theorem stH_eq (l : List (Nat × AV)) (bk : Nat → Option Blk) (n : Nat) : stH l ⟨bk, n⟩ = ⟨lk .dead l, ⟨bk, n⟩⟩ := (rfl)
theorem Sub.of {σ : AS} {l : List (Nat × AV)} {h : HP} (hn : σ.h.nt ≤ h.nt) (hl : ∀ p ∈ l, p.2 = σ.tm p.1) (hb : ∀ id b, h.bk id = some b → σ.h.bk id = some b) : Sub σ (stH l h) :=
  ⟨hn, fun t => by
    rcases lk_mem (d := AV.dead) (l := l) (t := t) with ⟨h1, _⟩ | ⟨p, hp, rfl, h2⟩
    · exact .inl h1
    · exact .inr (h2.trans (hl p hp)), hb⟩
theorem goT_sub {fn : FnE} {todo : List Item} {σ τ : AS} {r : RV} {t1 t2 t3} (hs : Sub σ τ) (h : goT P fn todo r ⟨⟩ ⟨⟩ ⟨⟩ τ) : goT P fn todo r t1 t2 t3 σ := GoA.weakF hs.nt hs.tm hs.bk h
/-- A loop by a measure, with the caller's blocks. -/
theorem goT_downS {fn : FnE} {todo : List Item} {σ : AS} {r : RV} {t1 t2 t3} {X : Type} (μ : X → Nat) (S : X → AS) (I : X → Prop)
    (round : ∀ x, I x → (∀ y σ', I y → μ y < μ x → Sub σ' (S y) → goT P fn todo r ⟨⟩ ⟨⟩ ⟨⟩ σ') → goT P fn todo r ⟨⟩ ⟨⟩ ⟨⟩ (S x))
    (x0 : X) (hI : I x0) (h0 : Sub σ (S x0)) : goT P fn todo r t1 t2 t3 σ := by
  have key : ∀ n x, μ x = n → I x → goT P fn todo r ⟨⟩ ⟨⟩ ⟨⟩ (S x) := by
    intro n
    induction n using Nat.strongRecOn with
    | _ n ih => intro x hx hi; exact round x hi fun y σ' hy hlt h => goT_sub h (ih (μ y) (by omega) y rfl hy)
  exact goT_sub h0 (key _ x0 rfl hI)
theorem PSpecL.start (lp : Option LoopI) (ex : List Nat) {f : FuncId} {fn : Func} {c : Code} {args : List AV} {Q : AV → HP → Prop} {h : HP} (n : Nat) (hf : P.funcs[f]? = some fn) (hb : fn.body = some c) (hnm : fn.name ≠ "runtime.NumGoroutine") (hm : P.follows .mixedOrders = true)
    (hok : okCode fn.ntmps ex c = true) (hlen : args.length ≤ fn.ntmps) (hv : vcT P ⟨fn, ex, h.nt, lp, false⟩ n [.code c] (.own Q) ⟨⟩ ⟨⟩ ⟨⟩ ⟨iniT args, h⟩) : PSpecL P lp f args h Q := PSpecL.intro n hf hb hnm hm ex hok hlen hv
theorem PSpec.start (ex : List Nat) {f : FuncId} {fn : Func} {c : Code} {args : List AV} {Q : AV → HP → Prop} {h : HP} (n : Nat) (hf : P.funcs[f]? = some fn) (hb : fn.body = some c) (hnm : fn.name ≠ "runtime.NumGoroutine") (hm : P.follows .mixedOrders = true)
    (hok : okCode fn.ntmps ex c = true) (hlen : args.length ≤ fn.ntmps) (hv : vcT P ⟨fn, ex, h.nt, none, false⟩ n [.code c] (.own Q) ⟨⟩ ⟨⟩ ⟨⟩ ⟨iniT args, h⟩) : PSpec P f args h Q := PSpecL.intro n hf hb hnm hm ex hok hlen hv
theorem goT_freeze {fn : FnE} {todo : List Item} {σ τ : AS} {r : RV} {t1 t2 t3} (j : Nat) (hj : τ.h.bk j = none) (hn : σ.h.nt ≤ τ.h.nt) (ht : ∀ t, Frz σ.h j (σ.tm t) (τ.tm t))
    (hb : ∀ id b, τ.h.bk id = some b → ∃ b0, σ.h.bk id = some b0 ∧ b.fix = b0.fix ∧ FrzL σ.h j b0.cs b.cs) (h : goT P fn todo r ⟨⟩ ⟨⟩ ⟨⟩ τ) : goT P fn todo r t1 t2 t3 σ := GoA.freeze j hj hn ht hb h
theorem resF_own {fn : FnE} {σ : AS} {Q : AV → HP → Prop} {a : AV} {h' : HP} (hq : Q a h') (hr : resRaw P fn.fn σ = some a) (hn : σ.h.nt ≤ h'.nt) (hb : ∀ id b, h'.bk id = some b → σ.h.bk id = some b) : resF P fn σ (.own Q) := ⟨a, h', hq, .inl hr, hn, hb⟩
theorem resF_dead {fn : FnE} {σ : AS} {Q : AV → HP → Prop} {h' : HP} (hq : Q .dead h') (hr : (resRaw P fn.fn σ).isSome = true) (hn : σ.h.nt ≤ h'.nt) (hb : ∀ id b, h'.bk id = some b → σ.h.bk id = some b) : resF P fn σ (.own Q) := ⟨.dead, h', hq, .inr ⟨rfl, hr⟩, hn, hb⟩

section
variable {bk : Nat → Option Blk} {nt : Nat} {id off s b : Nat} {a : Bool} {z : List AV}
theorem noRefs_take : ∀ {l : List AV} (k : Nat), noRefs l = true → noRefs (l.take k) = true
  | _, 0, _ => rfl
  | [], _ + 1, h => h
  | c :: l, k + 1, h => by
    simp only [noRefs, Bool.and_eq_true] at h
    simp only [List.take_succ_cons, noRefs, Bool.and_eq_true]
    exact ⟨h.1, noRefs_take k h.2⟩
theorem noRefs_drop : ∀ {l : List AV} (k : Nat), noRefs l = true → noRefs (l.drop k) = true
  | _, 0, h => h
  | [], _ + 1, h => h
  | c :: l, k + 1, h => by
    simp only [noRefs, Bool.and_eq_true] at h
    exact noRefs_drop k h.2
theorem view_sl {es n : Nat} {cs : List AV} {f : Bool} (hb : bk id = some ⟨cs, f⟩) (hl : off + n * es ≤ cs.length) (hn : noRefs cs = true) : view ⟨bk, nt⟩ (.sl id off es n) = .ro n ((cs.drop off).take (n * es)) := by
  have h2 : noRefs ((cs.drop off).take (n * es)) = true := noRefs_take _ (noRefs_drop _ hn)
  simp [view, view1, srcA, hb, hl, h2]
theorem append_own {e e2 es es2 eb eb2 s2 b2 n m : Nat} {ea ea2 a2 f : Bool} {z2 cs new : List AV} {src : AV} (hb : bk id = some ⟨cs, f⟩) (hs : srcA es ⟨bk, nt⟩ src = some (m, new)) (hz : zOk P e es = true) (hl : n * es ≤ cs.length) (ha : new.all leafOk = true)
    (h1 : (n + m) * eb ≤ 2 ^ 46) (h2 : n + m ≤ 2 ^ 62) :
    appendA P ⟨s, b, a, z, .slice e es ea eb⟩ ⟨s2, b2, a2, z2, .slice e2 es2 ea2 eb2⟩ ⟨bk, nt⟩ (.sl id 0 es n) src = some (.sl nt 0 es (n + m), ⟨upd (upd bk id none) nt (some ⟨cs.take (n * es) ++ new, false⟩), nt + 1⟩) := by
  simp only [appendA, appendB, hs, hz, ha, hb, hl, h1, h2, and_self, if_true, HP.move]
theorem append_nils {e e2 es es2 eb eb2 s2 b2 m : Nat} {ea ea2 a2 : Bool} {z2 new : List AV} {src : AV} (hs : srcA es ⟨bk, nt⟩ src = some (m, new)) (hz : zOk P e es = true) (ha : new.all leafOk = true) (hm : m ≠ 0)
    (h1 : m * eb ≤ 2 ^ 46) (h2 : m ≤ 2 ^ 62) :
    appendA P ⟨s, b, a, z, .slice e es ea eb⟩ ⟨s2, b2, a2, z2, .slice e2 es2 ea2 eb2⟩ ⟨bk, nt⟩ .nils src = some (.sl nt 0 es m, ⟨upd bk nt (some ⟨new, false⟩), nt + 1⟩) := by
  simp only [appendA, appendB, hs, hz, ha, hm, h1, h2, and_self, if_true, if_false, HP.add]
/-- A slice of one cell an element, made of its elements. -/
theorem build4 {e eb : Nat} {ea : Bool} {ie : TyI} (hi : tyI P e = some ie) (hsz : ie.size = 1) (hz : ie.zero.length = 1) {x0 x1 x2 x3 : Int} :
    buildSliceA P ⟨s, b, a, z, .slice e 1 ea eb⟩ ⟨bk, nt⟩ 4 [(0, .int .u8 x0), (1, .int .u8 x1), (2, .int .u8 x2), (3, .int .u8 x3)] = some (.sl nt 0 1 4, ⟨upd bk nt (some ⟨[.int .u8 x0, .int .u8 x1, .int .u8 x2, .int .u8 x3], true⟩), nt + 1⟩) := by
  obtain ⟨c, hc⟩ : ∃ c, ie.zero = [c] := by
    match h : ie.zero, hz with
    | [c], _ => exact ⟨c, rfl⟩
  have hf : fillA (fun j => some (j * 1, 1)) (zerosA [c] 4) [(0, .int .u8 x0), (1, .int .u8 x1), (2, .int .u8 x2), (3, .int .u8 x3)] = some [.int .u8 x0, .int .u8 x1, .int .u8 x2, .int .u8 x3] := by rfl
  simp only [buildSliceA, hi, hsz, hc, hf, HP.add]
  rfl
end
end Go.Am

/-! 'Am', part 25: from a contract to a row's walk: integers, bools, strings, slices of integers that came in. -/
namespace Go.Am
variable {P : Program}

/-- the world in which a row's call begins -/
def M0 (w : World) : Mem := Mem.callee (fun _ => False) w
theorem M0_free (w : World) (b : Nat) : (M0 w).free b := ⟨fun _ h => h.elim, fun h => h⟩

theorem ASpec.row {f : FuncId} {args : List AV} (h : ASpec P f args (.bool true)) (w : World) (vs : List Value) (hv : VRels (M0 w) false args vs) :
    Calls P f ⟨vs⟩ w fun e w' => e = .returned (.bool true) ∧ Go.RowKit.Below w.heap.size w w' := by
  refine (h.2 (fun _ => False) w vs (fun _ h => h.elim) hv).mono ?_
  rintro e w' ⟨v, rfl, hx, hr⟩
  simp only [VRel] at hr
  subst hr
  exact ⟨rfl, ⟨hx.os, hx.tape, hx.output, hx.size, hx.block⟩⟩

/-- What a slice of integers reads as. -/
theorem row_ro {k : IntKind} {w : World} {a : Option Addr} {len cap : Nat} {zs : List Int}
    (h : (a = none ∧ len = 0 ∧ cap = 0 ∧ zs = []) ∨
      ∃ x, a = some x ∧ len ≤ cap ∧ cap ≤ maxLen ∧ zs.length = cap ∧ (∀ i, i < zs.length → w.cell? (x.add i) = some (.int k (zs.getD i 0))) ∧ ∀ n ∈ zs, (Lit.int k n).wf = true) :
    VRel (M0 w) false (.ro len (famL (fun i => .int k (zs.getD i 0)) len)) (.slice a len cap) := by
  rcases h with ⟨rfl, rfl, rfl, rfl⟩ | ⟨x, rfl, hl, hm, hz, hc, hw⟩
  · exact ⟨none, 0, rfl, Nat.le_refl _, .inl rfl⟩
  · by_cases h0 : len = 0
    · subst h0
      exact ⟨_, cap, rfl, hl, .inl rfl⟩
    · obtain ⟨b, off, spot⟩ := x
      have h1 := hc 0 (by omega)
      have hspot : spot = none := by simpa [Addr.add] using World.cell?_spot h1
      subst hspot
      have key : ∀ i, i < zs.length → w.cell? ⟨b, off + i, none⟩ = some (.int k (zs.getD i 0)) := fun i hi => by
        have := hc i hi
        rwa [addr_add] at this
      obtain ⟨C, e, fz, hb⟩ : ∃ C e fz, w.heap[b]? = some (.cells C e fz) := by
        have h2 := key 0 (by omega)
        unfold World.cell? at h2
        split at h2
        · rename_i C e fz hb; exact ⟨C, e, fz, hb⟩
        · cases h2
      refine ⟨_, cap, rfl, hl, .inr ⟨b, off, C, e, fz, rfl, hb, M0_free w b, VPre.of_get fun i c hi => ?_⟩⟩
      have hil : i < len := by
        rcases Nat.lt_or_ge i len with h | h
        · exact h
        · rw [List.getElem?_eq_none (by simp; omega)] at hi; cases hi
      rw [famL_get _ _ _ hil] at hi
      cases hi
      have h3 := key i (by omega)
      unfold World.cell? at h3
      simp only [hb] at h3
      exact ⟨_, by rw [List.getElem?_drop]; simpa using h3, rfl⟩
theorem wf_i64 {x : Int} (h : (Lit.int .i64 x).wf = true) : -9223372036854775808 ≤ x ∧ x < 9223372036854775808 := by
  simp [Lit.wf, IntKind.min, IntKind.max, IntKind.bits, IntKind.signed] at h
  omega
theorem wf_u8 {x : Int} (h : (Lit.int .u8 x).wf = true) : 0 ≤ x ∧ x < 256 := by
  simp [Lit.wf, IntKind.min, IntKind.max, IntKind.bits, IntKind.signed] at h
  omega
end Go.Am

/-! 'Am', part 26: strings made of bytes, held against one another; a remainder of numbers below 0. -/
namespace Go.Am
variable {P : Program}

theorem ba_toList (s : ByteArray) : s.toList = s.data.toList := by
  have key : ∀ (n i : Nat) (r : List UInt8), s.size - i = n → ByteArray.toList.loop s i r = r.reverse ++ s.data.toList.drop i := by
    intro n
    induction n with
    | zero =>
      intro i r h
      rw [ByteArray.toList.loop, if_neg (by omega), List.drop_of_length_le (by have : s.data.toList.length = s.size := rfl; omega), List.append_nil]
    | succ n ih =>
      intro i r h
      have hi : i < s.data.toList.length := by have : s.data.toList.length = s.size := rfl; omega
      rw [ByteArray.toList.loop, if_pos (by omega), ih (i + 1) _ (by omega), List.drop_eq_getElem_cons hi]
      have hg : s.get! i = s.data.toList[i] := by
        show s.data[i]! = _
        rw [getElem!_pos s.data i (by simpa using hi)]
        simp
      rw [hg]
      simp
  have := key _ 0 [] rfl
  simpa [ByteArray.toList] using this
theorem strA_toList (cs : List AV) : (strA cs).toList = cs.map u8of := by
  rw [ba_toList]
  simp [strA]

theorem bytesLess_snoc : ∀ (l m : List UInt8) (a b : UInt8), l.length = m.length → Op.bytesLess (l ++ [a]) (m ++ [b]) = (Op.bytesLess l m || (l == m && decide (a < b)))
  | [], [], a, b, _ => by
    by_cases h : a < b <;> simp [Op.bytesLess, h]
  | x :: l, y :: m, a, b, h => by
    have ih := bytesLess_snoc l m a b (by simpa using h)
    simp only [List.cons_append, Op.bytesLess, ih]
    by_cases h1 : x < y
    · simp [h1]
    · by_cases h2 : x = y
      · subst h2; simp [h1]
      · have h3 : (x == y) = false := by simpa using h2
        simp [h1, h3]

/-- the number of n bytes, the highest first -/
def beV (f : Nat → Nat) : Nat → Nat
  | 0 => 0
  | n + 1 => 256 * beV f n + f n
def u8F (f : Nat → Nat) (i : Nat) : AV := .int .u8 (f i : Nat)
theorem u8of_u8F (f : Nat → Nat) (i : Nat) : u8of (u8F f i) = UInt8.ofNat (f i) := by simp [u8of, u8F]
theorem map_u8F (f : Nat → Nat) (n : Nat) : (famL (u8F f) n).map u8of = (List.range n).map fun i => UInt8.ofNat (f i) := by
  simp [famL, u8of_u8F]
theorem u8_lt {a b : Nat} (ha : a < 256) (hb : b < 256) : decide (UInt8.ofNat a < UInt8.ofNat b) = decide (a < b) := by
  rw [Bool.eq_iff_iff]
  simp only [decide_eq_true_eq, UInt8.lt_iff_toNat_lt, UInt8.toNat_ofNat']
  rw [Nat.mod_eq_of_lt (by simpa using ha), Nat.mod_eq_of_lt (by simpa using hb)]
theorem u8_eq {a b : Nat} (ha : a < 256) (hb : b < 256) : UInt8.ofNat a = UInt8.ofNat b ↔ a = b := by
  rw [← UInt8.toNat_inj, UInt8.toNat_ofNat', UInt8.toNat_ofNat', Nat.mod_eq_of_lt (by simpa using ha), Nat.mod_eq_of_lt (by simpa using hb)]
theorem be_eq {f g : Nat → Nat} {n : Nat} (hf : ∀ i, i < n → f i < 256) (hg : ∀ i, i < n → g i < 256) :
    ((famL (u8F f) n).map u8of == (famL (u8F g) n).map u8of) = decide (beV f n = beV g n) := by
  rw [map_u8F, map_u8F]
  induction n with
  | zero => simp [beV]
  | succ n ih =>
    have ih := ih (fun i hi => hf i (by omega)) (fun i hi => hg i (by omega))
    have h1 := hf n (by omega)
    have h2 := hg n (by omega)
    rw [Bool.eq_iff_iff] at ih ⊢
    rw [show beV f (n + 1) = 256 * beV f n + f n from rfl, show beV g (n + 1) = 256 * beV g n + g n from rfl]
    simp only [beq_iff_eq, decide_eq_true_eq, List.range_succ, List.map_append, List.map_cons, List.map_nil] at ih ⊢
    constructor
    · intro h
      have := List.append_inj h (by simp)
      have h3 := ih.1 this.1
      have h4 : UInt8.ofNat (f n) = UInt8.ofNat (g n) := by simpa using this.2
      rw [u8_eq h1 h2] at h4
      omega
    · intro h
      rw [ih.2 (by omega), show f n = g n by omega]
theorem be_less {f g : Nat → Nat} {n : Nat} (hf : ∀ i, i < n → f i < 256) (hg : ∀ i, i < n → g i < 256) :
    Op.bytesLess ((famL (u8F f) n).map u8of) ((famL (u8F g) n).map u8of) = decide (beV f n < beV g n) := by
  induction n with
  | zero => simp [famL, beV, Op.bytesLess]
  | succ n ih =>
    have ih := ih (fun i hi => hf i (by omega)) (fun i hi => hg i (by omega))
    have he := be_eq (n := n) (f := f) (g := g) (fun i hi => hf i (by omega)) (fun i hi => hg i (by omega))
    have h1 := hf n (by omega)
    have h2 := hg n (by omega)
    rw [famL_succ, famL_succ, List.map_append, List.map_append]
    simp only [List.map_cons, List.map_nil]
    rw [bytesLess_snoc _ _ _ _ (by simp), ih, he, u8of_u8F, u8of_u8F, u8_lt h1 h2, beV, beV]
    rw [Bool.eq_iff_iff]
    simp only [Bool.or_eq_true, Bool.and_eq_true, decide_eq_true_eq]
    omega
theorem beV_lt {f : Nat → Nat} : ∀ {n : Nat}, (∀ i, i < n → f i < 256) → beV f n < 256 ^ n
  | 0, _ => by simp [beV]
  | n + 1, h => by
    have := beV_lt (n := n) fun i hi => h i (by omega)
    have h1 := h n (by omega)
    rw [beV, Nat.pow_succ]
    omega
theorem beV_congr {f g : Nat → Nat} : ∀ {n : Nat}, (∀ i, i < n → f i = g i) → beV f n = beV g n
  | 0, _ => rfl
  | n + 1, h => by rw [beV, beV, beV_congr (n := n) fun i hi => h i (by omega), h n (by omega)]
/-- noughts ahead -/
theorem beV_ahead (f : Nat → Nat) (k : Nat) : ∀ n, beV (fun i => if i < k then 0 else f (i - k)) (k + n) = beV f n
  | 0 => by
    have : ∀ j, j ≤ k → beV (fun i => if i < k then 0 else f (i - k)) j = 0 := by
      intro j
      induction j with
      | zero => intro _; rfl
      | succ j ih => intro h; rw [beV, ih (by omega)]; simp [show j < k by omega]
    simpa [beV] using this k (Nat.le_refl _)
  | n + 1 => by
    rw [← Nat.add_assoc, beV, beV, beV_ahead f k n]
    rw [if_neg (by omega), Nat.add_sub_cancel_left]
theorem leaf_u8F (f : Nat → Nat) (n : Nat) : (famL (u8F f) n).all leafOk = true := leaf_famL fun _ _ => rfl
theorem isU8_u8F (f : Nat → Nat) (n : Nat) : (famL (u8F f) n).all isU8 = true := by
  simp [famL, isU8, u8F]
theorem refsLts_u8F (m : Nat) (f : Nat → Nat) (n : Nat) : refsLts m (famL (u8F f) n) = true := refsLts_famL fun _ _ => rfl
theorem noRefs_u8F (f : Nat → Nat) (n : Nat) : noRefs (famL (u8F f) n) = true := noRefs_famL fun _ _ => rfl
theorem rens_u8F (ρ : Nat → Nat) (f : Nat → Nat) (n : Nat) : rens ρ (famL (u8F f) n) = famL (u8F f) n := rens_famL fun _ _ => rfl

theorem binA_remZ {k : IntKind} {t : TypeId} {x y : Int} (h : y ≠ 0) : binA P .rem t (.int k x) (.int k y) = some (.int k (x.tmod y)) := by
  simp [binA, intA, h]
theorem binA_quoZ {k : IntKind} {t : TypeId} {x y : Int} (h : y ≠ 0) : binA P .quo t (.int k x) (.int k y) = some (.int k (k.wrap (x.tdiv y))) := by
  simp [binA, intA, h]
theorem tmod_within {x y : Int} (h : 0 < y) : (if x.tmod y < 0 then x.tmod y + y else x.tmod y) = x % y := by
  rw [Int.tmod_eq_emod]
  split <;> rename_i hc
  · have := Int.emod_nonneg x (show y ≠ 0 by omega); split <;> omega
  · have h1 := Int.emod_nonneg x (show y ≠ 0 by omega)
    have h2 := Int.emod_lt_of_pos x h
    have h3 : (y.natAbs : Int) = y := by omega
    rw [h3]
    split <;> omega
/-- a conversion of a slice of bytes to a string -/
theorem conv_str {i2 : TyI} {h : HP} {s b e eb : Nat} {a ea : Bool} {z : List AV} {x : AV} {n : Nat} {cs : List AV} (hx : ∀ k m, x ≠ .int k m) (hy : ∀ m, x ≠ .str m) (h2 : i2.td = .str) (hu : u8T P e = true) (hs : srcA 1 h x = some (n, cs)) (hc : cs.all isU8 = true) :
    convA P ⟨s, b, a, z, .slice e 1 ea eb⟩ i2 h x = some (.str (strA cs)) := by
  cases x <;> simp only [convA, h2] <;> first
    | (exact absurd rfl (hx _ _))
    | (exact absurd rfl (hy _))
    | simp [hu, hs, hc]
/-- What a slice of bytes reads as. -/
theorem row_u8 {w : World} {a : Option Addr} {len cap : Nat} {zs : List Int}
    (h : (a = none ∧ len = 0 ∧ cap = 0 ∧ zs = []) ∨
      ∃ x, a = some x ∧ len ≤ cap ∧ cap ≤ maxLen ∧ zs.length = cap ∧ (∀ i, i < zs.length → w.cell? (x.add i) = some (.int .u8 (zs.getD i 0))) ∧ ∀ n ∈ zs, (Lit.int .u8 n).wf = true) :
    VRel (M0 w) false (.ro len (famL (u8F fun i => (zs.getD i 0).toNat) len)) (.slice a len cap) ∧ ∀ i, (zs.getD i 0).toNat < 256 := by
  have h1 := row_ro h
  have hb : ∀ i, 0 ≤ zs.getD i 0 ∧ zs.getD i 0 < 256 := by
    intro i
    rcases h with ⟨_, _, _, rfl⟩ | ⟨x, _, _, _, _, _, hw⟩
    · simp
    · by_cases hi : i < zs.length
      · rw [List.getD_eq_getElem?_getD, List.getElem?_eq_getElem hi]
        exact wf_u8 (hw _ (List.getElem_mem hi))
      · rw [List.getD_eq_getElem?_getD, List.getElem?_eq_none (by omega)]
        simp
  refine ⟨?_, fun i => by have := hb i; omega⟩
  have he : famL (u8F fun i => (zs.getD i 0).toNat) len = famL (fun i => .int .u8 (zs.getD i 0)) len :=
    famL_congr fun i _ => by
      have := hb i
      simp only [u8F]
      congr 1
      omega
  rw [he]
  exact h1
end Go.Am
