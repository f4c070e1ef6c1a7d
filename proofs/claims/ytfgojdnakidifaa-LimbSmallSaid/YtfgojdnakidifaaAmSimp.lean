/-
  'Am', part 19: the words by which a run is reckoned.
-/
import Derived.Test.YtfgojdnakidifaaAmSpec
set_option linter.unusedSimpArgs false
set_option linter.unusedVariables false
namespace Go.Am
variable {P : Program}

/-- Cells by number. -/
def famL (f : Nat → AV) (n : Nat) : List AV := (List.range n).map f
@[simp] theorem famL_length (f : Nat → AV) (n : Nat) : (famL f n).length = n := by simp [famL]
theorem famL_get (f : Nat → AV) (n i : Nat) (h : i < n) : (famL f n)[i]? = some (f i) := by simp [famL, h]
theorem famL_set (f : Nat → AV) (n i : Nat) (v : AV) : (famL f n).set i v = famL (upd f i v) n := by
  apply List.ext_getElem?
  intro j
  simp only [famL, List.getElem?_set, List.getElem?_map, List.length_map, List.length_range]
  by_cases hj : j < n
  · by_cases hij : i = j
    · subst hij; simp [hj, upd]
    · simp [hj, hij, upd, Ne.symm hij]
  · by_cases hij : i = j
    · subst hij; simp [hj]
    · simp [hj, hij]
theorem famL_congr {f g : Nat → AV} {n : Nat} (h : ∀ i, i < n → f i = g i) : famL f n = famL g n :=
  List.map_congr_left fun i hi => h i (List.mem_range.1 hi)
theorem famL_succ (f : Nat → AV) (n : Nat) : famL f (n + 1) = famL f n ++ [f n] := by simp [famL, List.range_succ]

theorem noRefs_append : ∀ a b : List AV, noRefs (a ++ b) = (noRefs a && noRefs b)
  | [], b => by simp [noRefs]
  | c :: a, b => by simp [noRefs, noRefs_append a b, Bool.and_assoc]
theorem flats_append : ∀ a b : List AV, flats (a ++ b) = (flats a && flats b)
  | [], b => by simp [flats]
  | c :: a, b => by simp [flats, flats_append a b, Bool.and_assoc]
theorem refsLts_append (n : Nat) : ∀ a b : List AV, refsLts n (a ++ b) = (refsLts n a && refsLts n b)
  | [], b => by simp [refsLts]
  | c :: a, b => by simp [refsLts, refsLts_append n a b, Bool.and_assoc]
theorem rens_append (ρ : Nat → Nat) : ∀ a b : List AV, rens ρ (a ++ b) = rens ρ a ++ rens ρ b
  | [], b => rfl
  | c :: a, b => by simp [rens, rens_append ρ a b]
theorem noRefs_famL {f : Nat → AV} {n : Nat} (h : ∀ i, i < n → noRef (f i) = true) : noRefs (famL f n) = true := by
  induction n with
  | zero => rfl
  | succ n ih => rw [famL_succ, noRefs_append, ih fun i hi => h i (by omega)]; simp [noRefs, h n (by omega)]
theorem flats_famL {f : Nat → AV} {n : Nat} (h : ∀ i, i < n → flat (f i) = true) : flats (famL f n) = true := by
  induction n with
  | zero => rfl
  | succ n ih => rw [famL_succ, flats_append, ih fun i hi => h i (by omega)]; simp [flats, h n (by omega)]
theorem refsLts_famL {f : Nat → AV} {n m : Nat} (h : ∀ i, i < n → refsLt m (f i) = true) : refsLts m (famL f n) = true := by
  induction n with
  | zero => rfl
  | succ n ih => rw [famL_succ, refsLts_append, ih fun i hi => h i (by omega)]; simp [refsLts, h n (by omega)]
theorem rens_famL {ρ : Nat → Nat} {f : Nat → AV} {n : Nat} (h : ∀ i, i < n → ren ρ (f i) = f i) : rens ρ (famL f n) = famL f n := by
  induction n with
  | zero => rfl
  | succ n ih => rw [famL_succ, rens_append, ih fun i hi => h i (by omega)]; simp [rens, h n (by omega)]
theorem leaf_famL {f : Nat → AV} {n : Nat} (h : ∀ i, i < n → leafOk (f i) = true) : (famL f n).all leafOk = true := by
  simp only [famL, List.all_map, List.all_eq_true, List.mem_range]
  exact h

/-! ### Numbers -/
theorem limb_ex : ∃ f : Nat → Nat → Nat, ∀ N i, f N i = N / 2 ^ (32 * i) % 2 ^ 32 := ⟨_, fun _ _ => rfl⟩
/-- The i-th limb: chosen, so that the kernel does not unfold a division when it holds two numbers against one another. -/
noncomputable def limb : Nat → Nat → Nat := Classical.choose limb_ex
theorem limb_def (N i : Nat) : limb N i = N / 2 ^ (32 * i) % 2 ^ 32 := Classical.choose_spec limb_ex N i
noncomputable def limbA (N i : Nat) : AV := .int .u32 (limb N i : Nat)
noncomputable def numL (N : Nat) : List AV := famL (limbA N) 8
noncomputable def num (N : Nat) : AV := .agg (numL N)

@[simp] theorem numL_length (N : Nat) : (numL N).length = 8 := by simp [numL]
@[simp] theorem noRefs_numL (N : Nat) : noRefs (numL N) = true := noRefs_famL fun _ _ => rfl
@[simp] theorem flats_numL (N : Nat) : flats (numL N) = true := flats_famL fun _ _ => rfl
@[simp] theorem refsLts_numL (m N : Nat) : refsLts m (numL N) = true := refsLts_famL fun _ _ => rfl
@[simp] theorem rens_numL (ρ : Nat → Nat) (N : Nat) : rens ρ (numL N) = numL N := rens_famL fun _ _ => rfl
@[simp] theorem leaf_numL (N : Nat) : (numL N).all leafOk = true := leaf_famL fun _ _ => rfl
@[simp] theorem noRef_num (N : Nat) : noRef (num N) = true := by simp [num, noRef]
@[simp] theorem flat_num (N : Nat) : flat (num N) = true := by simp [num, flat]
@[simp] theorem cellsA_num (N : Nat) : cellsA (num N) = some (numL N) := (rfl)
@[simp] theorem refsLt_num (m N : Nat) : refsLt m (num N) = true := by simp [num, refsLt]
@[simp] theorem ren_num (ρ : Nat → Nat) (N : Nat) : ren ρ (num N) = num N := by simp [num, ren]
@[simp] theorem view_num (h : HP) (N : Nat) : view h (num N) = num N := by simp [num, view]

/-! ### The walk's own words: what stands under a token is not looked into -/
structure Tok {α : Sort _} (a : α) : Type where mk ::

def vcT (P : Program) (fn : FnE) (n : Nat) (todo : List Item) (r : AV) (_ : Tok fn) (_ : Tok todo) (_ : Tok r) (σ : AS) : Prop := vc P fn n todo σ r
def goT (P : Program) (fn : FnE) (todo : List Item) (r : AV) (_ : Tok fn) (_ : Tok todo) (_ : Tok r) (σ : AS) : Prop := GoA P fn todo σ r
def opsT (P : Program) (L os : List Oper) (K : AS → Prop) (_ : Tok L) (_ : Tok os) (_ : Tok K) (σ : AS) : Prop := opsV P L os σ K
def execT (P : Program) (o : Oper) (K : AS → Prop) (_ : Tok o) (_ : Tok K) (σ : AS) : Prop := execV P o σ K
def bindT {α : Type} (o : Option α) (K : α → Prop) (_ : Tok K) : Prop := bindV o K
def boolT (o : AV) (x y : Prop) (_ : Tok x) (_ : Tok y) : Prop := boolV o x y
def guardT (o : Option Bool) (x y : Prop) (_ : Tok x) (_ : Tok y) : Prop := guardV o x y
def callT (P : Program) (f : AV) (args : List AV) (h : HP) (K : AV → Prop) (_ : Tok K) : Prop := CallV P f args h K
def exitT (o : Option (List Item)) (K : List Item → Prop) (_ : Tok o) (_ : Tok K) : Prop := bindV o K

section
variable {fn : FnE} {n : Nat} {k : List Item} {σ : AS} {r : AV} {t1 : Tok fn} {t3 : Tok r}
@[simp] theorem vc_nil {t2} : vcT P fn (n + 1) [] r t1 t2 t3 σ = (resA P fn.fn σ = some r) := (rfl)
@[simp] theorem vc_inBlock {i : Nat} {t2} : vcT P fn (n + 1) (.inBlock i :: k) r t1 t2 t3 σ = vcT P fn n k r ⟨⟩ ⟨⟩ ⟨⟩ σ := (rfl)
@[simp] theorem vc_inScope {c : Code} {t2} : vcT P fn (n + 1) (.inScope c :: k) r t1 t2 t3 σ = vcT P fn n k r ⟨⟩ ⟨⟩ ⟨⟩ σ := (rfl)
@[simp] theorem vc_inLoop {c : Code} {t2} : vcT P fn (n + 1) (.inLoop c :: k) r t1 t2 t3 σ = goT P fn (.inLoop c :: k) r ⟨⟩ ⟨⟩ ⟨⟩ σ := (rfl)
@[simp] theorem vc_ret {t2} : vcT P fn (n + 1) (.code .ret :: k) r t1 t2 t3 σ = (resA P fn.fn σ = some r) := (rfl)
@[simp] theorem vc_skip {t2} : vcT P fn (n + 1) (.code .skip :: k) r t1 t2 t3 σ = vcT P fn n k r ⟨⟩ ⟨⟩ ⟨⟩ σ := (rfl)
@[simp] theorem vc_label {l : Nat} {t2} : vcT P fn (n + 1) (.code (.label l) :: k) r t1 t2 t3 σ = vcT P fn n k r ⟨⟩ ⟨⟩ ⟨⟩ σ := (rfl)
@[simp] theorem vc_seq {a b : Code} {t2} : vcT P fn (n + 1) (.code (.seq a b) :: k) r t1 t2 t3 σ = vcT P fn n (.code a :: .code b :: k) r ⟨⟩ ⟨⟩ ⟨⟩ σ := (rfl)
@[simp] theorem vc_cond {c : Operand} {x y : Code} {t2} : vcT P fn (n + 1) (.code (.cond c x y) :: k) r t1 t2 t3 σ =
    boolT (σ.ev c) (vcT P fn n (.code x :: k) r ⟨⟩ ⟨⟩ ⟨⟩ σ) (vcT P fn n (.code y :: k) r ⟨⟩ ⟨⟩ ⟨⟩ σ) ⟨⟩ ⟨⟩ := (rfl)
@[simp] theorem vc_block {i : Nat} {c : Code} {t2} : vcT P fn (n + 1) (.code (.block i c) :: k) r t1 t2 t3 σ = vcT P fn n (.code c :: .inBlock i :: k) r ⟨⟩ ⟨⟩ ⟨⟩ σ := (rfl)
@[simp] theorem vc_loop {c : Code} {t2} : vcT P fn (n + 1) (.code (.loop c) :: k) r t1 t2 t3 σ = goT P fn (.inLoop c :: k) r ⟨⟩ ⟨⟩ ⟨⟩ σ := (rfl)
@[simp] theorem vc_scope {c : Code} {t2} : vcT P fn (n + 1) (.code (.scope c) :: k) r t1 t2 t3 σ = vcT P fn n (.code c :: .inScope c :: k) r ⟨⟩ ⟨⟩ ⟨⟩ σ := (rfl)
@[simp] theorem vc_exit {i : Nat} {t2} : vcT P fn (n + 1) (.code (.exit i) :: k) r t1 t2 t3 σ = exitT (exitTo i k) (fun k' => vcT P fn n k' r ⟨⟩ ⟨⟩ ⟨⟩ σ) ⟨⟩ ⟨⟩ := (rfl)
@[simp] theorem vc_goto {l : Nat} {t2} : vcT P fn (n + 1) (.code (.goto l) :: k) r t1 t2 t3 σ = exitT (gotoIn l k) (fun k' => goT P fn k' r ⟨⟩ ⟨⟩ ⟨⟩ σ) ⟨⟩ ⟨⟩ := (rfl)
def exT (b : Bool) (x y : Prop) (_ : Tok x) (_ : Tok y) : Prop := if b = true then x else y
@[simp] theorem exT_t {x y : Prop} {t1 t2} : exT true x y t1 t2 = x := by simp [exT]
@[simp] theorem exT_f {x y : Prop} {t1 t2} : exT false x y t1 t2 = y := by simp [exT]
@[simp] theorem vc_region {f : Func} {i : Nat} {L : List Oper} {d : Bool} {t1 t2} : vcT P ⟨f, []⟩ (n + 1) (.code (.region i (List.toArray L) d) :: k) r t1 t2 t3 σ = opsT P L L (fun σ' => vcT P ⟨f, []⟩ n k r ⟨⟩ ⟨⟩ ⟨⟩ σ') ⟨⟩ ⟨⟩ ⟨⟩ σ := (rfl)
@[simp] theorem vc_regionX {f : Func} {x : Nat} {ex : List Nat} {i : Nat} {L : List Oper} {d : Bool} {t1 t2} : vcT P ⟨f, x :: ex⟩ (n + 1) (.code (.region i (List.toArray L) d) :: k) r t1 t2 t3 σ =
    exT ((x :: ex).contains i) (goT P ⟨f, x :: ex⟩ (.code (.region i (List.toArray L) d) :: k) r ⟨⟩ ⟨⟩ ⟨⟩ σ) (opsT P L L (fun σ' => vcT P ⟨f, x :: ex⟩ n k r ⟨⟩ ⟨⟩ ⟨⟩ σ') ⟨⟩ ⟨⟩ ⟨⟩ σ) ⟨⟩ ⟨⟩ := (rfl)
@[simp] theorem exitT_same {i : Nat} {K : List Item → Prop} {t1 t2} : exitT (exitTo i (.inBlock i :: k)) K t1 t2 = K k := by simp [exitT, exitTo, bindV]
@[simp] theorem exitT_block {i j : Nat} {K : List Item → Prop} {t1 t2} (h : j ≠ i) : exitT (exitTo i (.inBlock j :: k)) K t1 t2 = exitT (exitTo i k) K ⟨⟩ ⟨⟩ := by simp [exitT, exitTo, h]
@[simp] theorem exitT_code {i : Nat} {c : Code} {K : List Item → Prop} {t1 t2} : exitT (exitTo i (.code c :: k)) K t1 t2 = exitT (exitTo i k) K ⟨⟩ ⟨⟩ := (rfl)
@[simp] theorem exitT_loop {i : Nat} {c : Code} {K : List Item → Prop} {t1 t2} : exitT (exitTo i (.inLoop c :: k)) K t1 t2 = exitT (exitTo i k) K ⟨⟩ ⟨⟩ := (rfl)
@[simp] theorem exitT_scope {i : Nat} {c : Code} {K : List Item → Prop} {t1 t2} : exitT (exitTo i (.inScope c :: k)) K t1 t2 = exitT (exitTo i k) K ⟨⟩ ⟨⟩ := (rfl)
@[simp] theorem opsV_nil {L : List Oper} {K : AS → Prop} {t1 t2 t3} : opsT P L [] K t1 t2 t3 σ = K σ := (rfl)
@[simp] theorem opsV_none {L os : List Oper} {dst : Option Tmp} {op : Op} {ty : TypeId} {pos : String} {aft : Array Edge} {K : AS → Prop} {t1 t2 t3} :
    opsT P L (⟨dst, op, ty, pos, aft, none⟩ :: os) K t1 t2 t3 σ = execT P ⟨dst, op, ty, pos, aft, none⟩ (fun σ' => opsT P L os K ⟨⟩ ⟨⟩ ⟨⟩ σ') ⟨⟩ ⟨⟩ σ := by
  simp [opsT, execT, opsV, guardA, guardV]
end
/-- The slot of the operation that a guard names. -/
def gslot (L : List Oper) (j : Nat) : Option Tmp := (L[j]?).bind (·.dst)
def gv (a : AV) (w : Bool) : Option Bool :=
  match a with
  | .bool b => some (b == w)
  | _ => none
def gval (tm : Nat → AV) (t : Option Tmp) (want : Bool) : Option Bool :=
  match t with
  | some t => gv (tm t) want
  | none => none
def slotT (L : List Oper) (j : Nat) (K : Option Tmp → Prop) (_ : Tok L) (_ : Tok K) : Prop := K (gslot L j)
@[simp] theorem slotT_zero {o : Oper} {L : List Oper} {K : Option Tmp → Prop} {t1 t2} : slotT (o :: L) 0 K t1 t2 = K o.dst := (rfl)
@[simp] theorem slotT_succ {o : Oper} {L : List Oper} {j : Nat} {K : Option Tmp → Prop} {t1 t2} : slotT (o :: L) (j + 1) K t1 t2 = slotT L j K ⟨⟩ ⟨⟩ := (rfl)
@[simp] theorem opsV_some {L os : List Oper} {dst : Option Tmp} {op : Op} {ty : TypeId} {pos : String} {aft : Array Edge} {j : Nat} {w : Bool} {σ : AS} {K : AS → Prop} {t1 t2 t3} :
    opsT P L (⟨dst, op, ty, pos, aft, some (j, w)⟩ :: os) K t1 t2 t3 σ =
      slotT L j (fun s => guardT (gval σ.tm s w) (execT P ⟨dst, op, ty, pos, aft, some (j, w)⟩ (fun σ' => opsT P L os K ⟨⟩ ⟨⟩ ⟨⟩ σ') ⟨⟩ ⟨⟩ σ) (opsT P L os K ⟨⟩ ⟨⟩ ⟨⟩ (σ.put dst .dead)) ⟨⟩ ⟨⟩) ⟨⟩ ⟨⟩ := (rfl)
@[simp] theorem gval_some {tm : Nat → AV} {t : Tmp} {w : Bool} : gval tm (some t) w = gv (tm t) w := (rfl)
@[simp] theorem gval_bool {b w : Bool} : gv (AV.bool b) w = some (b == w) := (rfl)
@[simp] theorem bindV_some {α : Type} {a : α} {K : α → Prop} {t} : bindT (some a) K t = K a := (rfl)
@[simp] theorem bindV_none {α : Type} {K : α → Prop} {t} : bindT none K t = False := (rfl)
@[simp] theorem boolV_t {x y : Prop} {t1 t2} : boolT (.bool true) x y t1 t2 = x := by simp [boolT, boolV]
@[simp] theorem boolV_f {x y : Prop} {t1 t2} : boolT (.bool false) x y t1 t2 = y := by simp [boolT, boolV]
@[simp] theorem guardV_t {x y : Prop} {t1 t2} : guardT (some true) x y t1 t2 = x := by simp [guardT, guardV]
@[simp] theorem guardV_f {x y : Prop} {t1 t2} : guardT (some false) x y t1 t2 = y := by simp [guardT, guardV]
@[simp] theorem put_some {tm : Nat → AV} {h : HP} {d : Tmp} {v : AV} : (AS.mk tm h).put (some d) v = ⟨upd tm d v, h⟩ := (rfl)
@[simp] theorem put_none {σ : AS} {v : AV} : σ.put none v = σ := (rfl)
@[simp] theorem ev_tmp {tm : Nat → AV} {h : HP} {t : Tmp} : (AS.mk tm h).ev (.tmp t) = tm t := (rfl)
@[simp] theorem ev_int {σ : AS} {k : IntKind} {n : Int} : σ.ev (.const (.int k n)) = .int k n := (rfl)
@[simp] theorem ev_bool {σ : AS} {b : Bool} : σ.ev (.const (.bool b)) = .bool b := (rfl)
@[simp] theorem ev_str {σ : AS} {s : ByteArray} : σ.ev (.const (.string s)) = .str s := (rfl)
@[simp] theorem ev_nils {σ : AS} : σ.ev (.const (.slice none 0 0)) = .nils := (rfl)
@[simp] theorem ev_func {σ : AS} {f : FuncId} : σ.ev (.func f) = .fn (.func f) [] [] := (rfl)
theorem upd_eq {α : Type} (f : Nat → α) (i j : Nat) (v : α) : upd f i v j = if j = i then v else f j := (rfl)

section
variable {dst : Option Tmp} {ty : TypeId} {pos : String} {aft : Array Edge} {g : Option (Nat × Bool)} {σ : AS} {K : AS → Prop} {t2 : Tok K}
@[simp] theorem execV_call {f : Operand} {L : List Operand} {ts : Array TypeId} {t1} : execT P ⟨dst, .call { callee := .value f, args := List.toArray L, argTypes := ts }, ty, pos, aft, g⟩ K t1 t2 σ = callT P (σ.ev f) (L.map σ.ev) σ.h (fun r => K (σ.put dst r)) ⟨⟩ := (rfl)
@[simp] theorem execV_builtin {b : Builtin} {L : List Operand} {ts : List TypeId} {t1} : execT P ⟨dst, .call { callee := .builtin b, args := List.toArray L, argTypes := List.toArray ts }, ty, pos, aft, g⟩ K t1 t2 σ =
    bindT (bltA P b (L.map σ.ev) ts σ.h) (fun x => K ((AS.mk σ.tm x.2).put dst x.1)) ⟨⟩ := (rfl)
@[simp] theorem execV_move {x : Operand} {t1} : execT P ⟨dst, .move x, ty, pos, aft, g⟩ K t1 t2 σ = K (σ.put dst (σ.ev x)) := (rfl)
@[simp] theorem execV_assign {x : Operand} {t1} : execT P ⟨dst, .assign x, ty, pos, aft, g⟩ K t1 t2 σ = K (σ.put dst (σ.ev x)) := (rfl)
def pickA (c a b : AV) : Option AV :=
  match c with
  | .bool t => some (if t then a else b)
  | _ => none
@[simp] theorem pickA_bool {t : Bool} {a b : AV} : pickA (.bool t) a b = some (if t then a else b) := (rfl)
@[simp] theorem execV_pick {c a b : Operand} {t1} : execT P ⟨dst, .pick c a b, ty, pos, aft, g⟩ K t1 t2 σ = bindT (pickA (σ.ev c) (σ.ev a) (σ.ev b)) (fun v => K (σ.put dst v)) ⟨⟩ := by
  simp only [execT, bindT, execV, exec, pickA]
  cases σ.ev c <;> rfl
theorem bindV_map {α β : Type} {o : Option α} {f : α → β} {K : β → Prop} : bindV (o.map f) K = bindV o fun a => K (f a) := by cases o <;> rfl
theorem bindV_ty {α : Type} {t : TypeId} {f : TyI → Option α} {K : α → Prop} : bindV (withTy P t f) K = bindV (tyI P t) fun i => bindV (f i) K := by
  unfold withTy
  cases tyI P t <;> rfl
theorem bindV_some' {α : Type} {a : α} {K : α → Prop} : bindV (some a) K = K a := (rfl)
@[simp] theorem execV_alloc {t : TypeId} {t1} : execT P ⟨dst, .alloc t, ty, pos, aft, g⟩ K t1 t2 σ = bindT (tyI P t) (fun i => K ((AS.mk σ.tm (σ.h.add ⟨i.zero, true⟩)).put dst (.ptr σ.h.nt 0))) ⟨⟩ := by
  simp only [execT, bindT, execV, exec, bindV_ty, bindV_some']
@[simp] theorem execV_box {t : TypeId} {x : Operand} {t1} : execT P ⟨dst, .box t x, ty, pos, aft, g⟩ K t1 t2 σ = bindT (cellsA (σ.ev x)) (fun cs => K ((AS.mk σ.tm (σ.h.add ⟨cs, true⟩)).put dst (.ptr σ.h.nt 0))) ⟨⟩ := by
  simp only [execT, bindT, execV, exec, bindV_map]
@[simp] theorem execV_build {t : TypeId} {ps : List (Nat × Operand)} {t1} : execT P ⟨dst, .build t (List.toArray ps), ty, pos, aft, g⟩ K t1 t2 σ =
    bindT (tyI P t) (fun i => bindT (buildA i (ps.map fun p => (p.1, σ.ev p.2))) (fun v => K (σ.put dst v)) ⟨⟩) ⟨⟩ := by
  simp only [execT, bindT, execV, exec, bindV_ty, bindV_map, evParts]
@[simp] theorem execV_buildSlice {t : TypeId} {m : Nat} {ps : List (Nat × Operand)} {t1} : execT P ⟨dst, .buildSlice t m (List.toArray ps), ty, pos, aft, g⟩ K t1 t2 σ =
    bindT (tyI P t) (fun i => bindT (buildSliceA P i σ.h m (ps.map fun p => (p.1, σ.ev p.2))) (fun x => K ((AS.mk σ.tm x.2).put dst x.1)) ⟨⟩) ⟨⟩ := by
  simp only [execT, bindT, execV, exec, bindV_ty, evParts]
@[simp] theorem execV_load {t : TypeId} {x : Operand} {t1} : execT P ⟨dst, .load t x, ty, pos, aft, g⟩ K t1 t2 σ = bindT (tyI P t) (fun i => bindT (loadA i σ.h (σ.ev x)) (fun v => K (σ.put dst v)) ⟨⟩) ⟨⟩ := by
  simp only [execT, bindT, execV, exec, bindV_ty, bindV_map]
@[simp] theorem execV_store {t : TypeId} {a v : Operand} {t1} : execT P ⟨dst, .store t a v, ty, pos, aft, g⟩ K t1 t2 σ =
    bindT (tyI P t) (fun i => bindT (storeA i σ.h (σ.ev a) (σ.ev v)) (fun h' => K ((AS.mk σ.tm h').put dst .dead)) ⟨⟩) ⟨⟩ := by
  simp only [execT, bindT, execV, exec, bindV_ty, bindV_map]
@[simp] theorem execV_nilCheck {x : Operand} {t1} : execT P ⟨dst, .nilCheck x, ty, pos, aft, g⟩ K t1 t2 σ = bindT (nilA σ.h (σ.ev x)) (fun v => K (σ.put dst v)) ⟨⟩ := by
  simp only [execT, bindT, execV, exec, bindV_map]
@[simp] theorem execV_binOp {op : BinOp} {t t3 : TypeId} {x y : Operand} {t1} : execT P ⟨dst, .binOp op t x y t3, ty, pos, aft, g⟩ K t1 t2 σ = bindT (binA P op t (σ.ev x) (σ.ev y)) (fun v => K (σ.put dst v)) ⟨⟩ := by
  simp only [execT, bindT, execV, exec, bindV_map]
@[simp] theorem execV_unOp {op : UnOp} {t : TypeId} {x : Operand} {t1} : execT P ⟨dst, .unOp op t x, ty, pos, aft, g⟩ K t1 t2 σ = bindT (unA op (σ.ev x)) (fun v => K (σ.put dst v)) ⟨⟩ := by
  simp only [execT, bindT, execV, exec, bindV_map]
@[simp] theorem execV_convert {s d : TypeId} {x : Operand} {t1} : execT P ⟨dst, .convert s d x, ty, pos, aft, g⟩ K t1 t2 σ =
    bindT (tyI P s) (fun i => bindT (tyI P d) (fun i2 => bindT (convA P i i2 σ.h (σ.ev x)) (fun v => K (σ.put dst v)) ⟨⟩) ⟨⟩) ⟨⟩ := by
  simp only [execT, bindT, execV, exec, bindV_ty, bindV_map]
@[simp] theorem execV_makeFunc {f : Fn} {a b : List Operand} {t1} : execT P ⟨dst, .makeFunc f (List.toArray a) (List.toArray b), ty, pos, aft, g⟩ K t1 t2 σ = K (σ.put dst (.fn f (a.map σ.ev) (b.map σ.ev))) := (rfl)
@[simp] theorem execV_makeSlice {t : TypeId} {l c : Operand} {t1} : execT P ⟨dst, .makeSlice t l c, ty, pos, aft, g⟩ K t1 t2 σ =
    bindT (tyI P t) (fun i => bindT (makeA P i σ.h (σ.ev l) (σ.ev c)) (fun x => K ((AS.mk σ.tm x.2).put dst x.1)) ⟨⟩) ⟨⟩ := by
  simp only [execT, bindT, execV, exec, bindV_ty]
@[simp] theorem execV_slice {t : TypeId} {x : Operand} {lo hi mx : Option Operand} {t1} : execT P ⟨dst, .slice t x lo hi mx, ty, pos, aft, g⟩ K t1 t2 σ =
    bindT (tyI P t) (fun i => bindT (sliceA i σ.h (σ.ev x) (lo.map σ.ev) (hi.map σ.ev) (mx.map σ.ev)) (fun v => K (σ.put dst v)) ⟨⟩) ⟨⟩ := by
  simp only [execT, bindT, execV, exec, bindV_ty, bindV_map]
@[simp] theorem execV_fieldAddr {t : TypeId} {x : Operand} {f : Nat} {t1} : execT P ⟨dst, .fieldAddr t x f, ty, pos, aft, g⟩ K t1 t2 σ = bindT (tyI P t) (fun i => bindT (fieldAddrA i σ.h f (σ.ev x)) (fun v => K (σ.put dst v)) ⟨⟩) ⟨⟩ := by
  simp only [execT, bindT, execV, exec, bindV_ty, bindV_map]
@[simp] theorem execV_field {t : TypeId} {x : Operand} {f : Nat} {t1} : execT P ⟨dst, .field t x f, ty, pos, aft, g⟩ K t1 t2 σ = bindT (tyI P t) (fun i => bindT (fieldA i f (σ.ev x)) (fun v => K (σ.put dst v)) ⟨⟩) ⟨⟩ := by
  simp only [execT, bindT, execV, exec, bindV_ty, bindV_map]
@[simp] theorem execV_indexAddr {t : TypeId} {x ix : Operand} {t1} : execT P ⟨dst, .indexAddr t x ix, ty, pos, aft, g⟩ K t1 t2 σ = bindT (tyI P t) (fun i => bindT (indexAddrA i σ.h (σ.ev x) (σ.ev ix)) (fun v => K (σ.put dst v)) ⟨⟩) ⟨⟩ := by
  simp only [execT, bindT, execV, exec, bindV_ty, bindV_map]
@[simp] theorem execV_index {t : TypeId} {x ix : Operand} {t1} : execT P ⟨dst, .index t x ix, ty, pos, aft, g⟩ K t1 t2 σ = bindT (tyI P t) (fun i => bindT (indexA i (σ.ev x) (σ.ev ix)) (fun v => K (σ.put dst v)) ⟨⟩) ⟨⟩ := by
  simp only [execT, bindT, execV, exec, bindV_ty, bindV_map]
@[simp] theorem execV_extract {x : Operand} {j : Nat} {t1} : execT P ⟨dst, .extract x j, ty, pos, aft, g⟩ K t1 t2 σ = bindT (extractA (σ.ev x) j) (fun v => K (σ.put dst v)) ⟨⟩ := by
  simp only [execT, bindT, execV, exec, bindV_map]
end

/-! ### What the prover says -/
theorem ASpec.startX (ex : List Nat) {f : FuncId} {fn : Func} {c : Code} {args : List AV} {r : AV} (n : Nat) (hf : P.funcs[f]? = some fn) (hb : fn.body = some c) (hnm : fn.name ≠ "runtime.NumGoroutine") (hm : P.follows .mixedOrders = true)
    (hok : okCode fn.ntmps ex c = true) (hlen : args.length ≤ fn.ntmps) (h : vcT P ⟨fn, ex⟩ n [.code c] r ⟨⟩ ⟨⟩ ⟨⟩ (ini args)) : ASpec P f args r := ASpec.intro n hf hb hnm hm ex hok hlen h
theorem ASpec.start {f : FuncId} {fn : Func} {c : Code} {args : List AV} {r : AV} (n : Nat) (hf : P.funcs[f]? = some fn) (hb : fn.body = some c) (hnm : fn.name ≠ "runtime.NumGoroutine") (hm : P.follows .mixedOrders = true)
    (hok : okCode fn.ntmps [] c = true) (hlen : args.length ≤ fn.ntmps) (h : vcT P ⟨fn, []⟩ n [.code c] r ⟨⟩ ⟨⟩ ⟨⟩ (ini args)) : ASpec P f args r := ASpec.intro n hf hb hnm hm [] hok hlen h
theorem goT_round (hm : P.follows .mixedOrders = true) {fn : FnE} {c : Code} {k : List Item} {σ : AS} {r : AV} {t1 t2 t3} (n : Nat) (h : vcT P fn n (.code c :: .inLoop c :: k) r ⟨⟩ ⟨⟩ ⟨⟩ σ) : goT P fn (.inLoop c :: k) r t1 t2 t3 σ :=
  GoA.round hm n h
theorem goT_run (hm : P.follows .mixedOrders = true) {fn : FnE} {k : List Item} {σ : AS} {r : AV} {t1 t2 t3} (n : Nat) (h : vcT P fn n k r ⟨⟩ ⟨⟩ ⟨⟩ σ) : goT P fn k r t1 t2 t3 σ := vc_sound hm n _ _ _ h
theorem goT_weak {fn : FnE} {todo : List Item} {σ : AS} {r : AV} {t1 t2 t3} (ρ : Nat → Nat) {l : List (Nat × AV)} {b : List (Nat × Blk)} {n : Nat} (hw : Weak ρ l b n σ) (h : goT P fn todo r ⟨⟩ ⟨⟩ ⟨⟩ (st l b n)) : goT P fn todo r t1 t2 t3 σ := GoA.weak ρ hw h
theorem goT_weak0 {fn : FnE} {todo : List Item} {σ : AS} {r : AV} {t1 t2 t3} {l : List (Nat × AV)} {b : List (Nat × Blk)} {n : Nat} (h : goT P fn todo r ⟨⟩ ⟨⟩ ⟨⟩ (st l b n)) (h1 : ∀ p ∈ l, p.2 = σ.tm p.1 ∧ refsLt n p.2 = true)
    (h2 : ∀ p ∈ b, p.1 < n ∧ refsLts n p.2.cs = true ∧ σ.h.bk p.1 = some p.2) : goT P fn todo r t1 t2 t3 σ := GoA.weak0 h1 h2 h
theorem callT_of {g : FuncId} {args : List AV} {h : HP} {r : AV} {K : AV → Prop} {t} (hS : ASpec P g args r) (hn : noRefs args = true) (hr : noRef r = true) (hK : K r) : callT P (.fn (.func g) [] []) args h K t := CallV.of hS hn hr hK
theorem callT_view {g : FuncId} {args : List AV} {h : HP} {r : AV} {K : AV → Prop} {t} (hS : ASpec P g (args.map (Am.view h)) r) (hr : flat r = true) (hK : K r) : callT P (.fn (.func g) [] []) args h K t := CallV.view hS hr hK
theorem boolT_split {b : Bool} {x y : Prop} {t1 t2} (h1 : b = true → x) (h2 : b = false → y) : boolT (.bool b) x y t1 t2 := ⟨h1, h2⟩
theorem guardT_split {b : Bool} {x y : Prop} {t1 t2} (h1 : b = true → x) (h2 : b = false → y) : guardT (some b) x y t1 t2 := ⟨h1, h2⟩
theorem goT_region2 (hm : P.follows .mixedOrders = true) (dyn : List (Tmp × Tmp)) {fn : FnE} {id : Nat} {L : List Oper} {k : List Item} {σ : AS} {r : AV} {t1 t2 t3} (n : Nat) (hok : regionOk2 fn.fn.ntmps L.toArray none dyn = true)
    (h : opsT P L L (fun σ' => dynOk dyn σ'.tm ∧ vcT P fn n k r ⟨⟩ ⟨⟩ ⟨⟩ σ') ⟨⟩ ⟨⟩ ⟨⟩ σ) : goT P fn (.code (.region id (List.toArray L) true) :: k) r t1 t2 t3 σ := by
  refine go_region2 dyn hm hok ?_
  have mono : ∀ (os : List Oper) (σ : AS) (K K' : AS → Prop), (∀ σ', K σ' → K' σ') → opsV P L os σ K → opsV P L os σ K' := by
    intro os σ K K' hK hv
    exact opsV_mono hK os σ hv
  exact mono L σ _ _ (fun σ' hσ => ⟨hσ.1, vc_sound hm n _ _ _ hσ.2⟩) h
theorem goT_region3 (hm : P.follows .mixedOrders = true) (q : Nat) {fn : FnE} {id : Nat} {L : List Oper} {k : List Item} {σ : AS} {r : AV} {t1 t2 t3} {o o' : Oper} {os2 : List Oper} (hok : regionOk2 fn.fn.ntmps L.toArray (some q) [] = true)
    (hla : lastOk L.toArray q = true) (hL : L.drop q = o :: o' :: os2) (ns : Nat) (ls : List (Nat × AV)) (bs : List (Nat × Blk)) (h : goT P fn k r ⟨⟩ ⟨⟩ ⟨⟩ (st ls bs ns))
    (h' : opsT P L (L.take q) (fun σ0 => opsT P L (o :: o' :: os2) (fun σ' => Weak (fun i => i) ls bs ns σ') ⟨⟩ ⟨⟩ ⟨⟩ σ0 ∧ opsT P L (o' :: o :: os2) (fun σ' => ∃ ρ, Weak ρ ls bs ns σ') ⟨⟩ ⟨⟩ ⟨⟩ σ0) ⟨⟩ ⟨⟩ ⟨⟩ σ) :
    goT P fn (.code (.region id (List.toArray L) true) :: k) r t1 t2 t3 σ := by
  refine go_region3 q hm hok hla hL (opsV_mono (fun σ0 h0 => ⟨opsV_mono (fun σ' hw => GoA.weak _ hw h) _ _ h0.1, opsV_mono (fun σ' hw => let ⟨ρ, hw⟩ := hw; GoA.weak ρ hw h) _ _ h0.2⟩) _ _ h')
end Go.Am
