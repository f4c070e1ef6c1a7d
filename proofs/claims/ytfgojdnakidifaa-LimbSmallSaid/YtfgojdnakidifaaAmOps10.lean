/-
  'Am', part 12: binary and unary operators, min, max.
-/
import Derived.Test.YtfgojdnakidifaaAmOps9
set_option linter.unusedSimpArgs false
set_option linter.unusedVariables false
namespace Go.Am
variable {P : Program} {X : Ctx} {h : HP} {M : Mem}

def eqK (P : Program) (t : TypeId) : Option (List LK) := if P.eqGuardType P.depth t = true then none else leafKinds P 8 t

def bitsA (op : BinOp) (k : IntKind) (x y : Int) : Int :=
  let a := BitVec.ofInt k.bits x
  let b := BitVec.ofInt k.bits y
  match op with
  | .and => k.wrap (a &&& b).toNat
  | .or => k.wrap (a ||| b).toNat
  | .xor => k.wrap (a ^^^ b).toNat
  | _ => k.wrap (a &&& ~~~b).toNat

def aggT (P : Program) (t : TypeId) : Bool := ((P.underlying t).map isAggD).getD false
def eqA (P : Program) (t : TypeId) (as bs : List AV) : Option Bool :=
  match eqK P t with
  | some ks => if kindsOk ks as = true ∧ kindsOk ks bs = true ∧ aggT P t = true then eqCells as bs else none
  | none => none

def intA (op : BinOp) (k : IntKind) (a b : Int) : Option AV :=
  match op with
  | .add => some (.int k (k.wrap (a + b)))
  | .sub => some (.int k (k.wrap (a - b)))
  | .mul => some (.int k (k.wrap (a * b)))
  | .quo => if b = 0 then none else some (.int k (k.wrap (a.tdiv b)))
  | .rem => if b = 0 then none else some (.int k (a.tmod b))
  | .and => some (.int k (bitsA .and k a b))
  | .or => some (.int k (bitsA .or k a b))
  | .xor => some (.int k (bitsA .xor k a b))
  | .andNot => some (.int k (bitsA .andNot k a b))
  | .eql => some (.bool (a == b))
  | .neq => some (.bool (a != b))
  | .lss => some (.bool (decide (a < b)))
  | .leq => some (.bool (decide (a ≤ b)))
  | .gtr => some (.bool (decide (a > b)))
  | .geq => some (.bool (decide (a ≥ b)))
  | _ => none

def strOpA (op : BinOp) (x y : ByteArray) : Option AV :=
  match op with
  | .add => if x.size + y.size ≤ 2 ^ 62 then some (.str (x ++ y)) else none
  | .eql => some (.bool (x.toList == y.toList))
  | .neq => some (.bool !(x.toList == y.toList))
  | .lss => some (.bool (Op.bytesLess x.toList y.toList))
  | .leq => some (.bool (Op.bytesLess x.toList y.toList || x.toList == y.toList))
  | .gtr => some (.bool !(Op.bytesLess x.toList y.toList || x.toList == y.toList))
  | .geq => some (.bool !(Op.bytesLess x.toList y.toList))
  | _ => none

def isBoolT (P : Program) (t : TypeId) : Bool :=
  match tyI P t with
  | some i => (match i.td with | .bool => true | _ => false)
  | none => false

def binA (P : Program) (op : BinOp) (t : TypeId) (x y : AV) : Option AV :=
  match x, y with
  | .int k a, .int k' b => match op with
    | .shl => if 0 ≤ b then some (.int k (k.wrap (a * 2 ^ (min b.toNat k.bits)))) else none
    | .shr => if 0 ≤ b then some (.int k (a.fdiv (2 ^ (min b.toNat k.bits)))) else none
    | op => if k = k' then intA op k a b else none
  | .str a, .str b => strOpA op a b
  | .bool a, .bool b => if isBoolT P t = true then (match op with
    | .eql => some (.bool (a == b))
    | .neq => some (.bool (a != b))
    | _ => none) else none
  | .agg as, .agg bs => match eqA P t as bs with
    | some r => (match op with
      | .eql => some (.bool r)
      | .neq => some (.bool !r)
      | _ => none)
    | none => none
  | _, _ => none

theorem aggT_spec {t : TypeId} (h : aggT P t = true) : ∃ d, P.underlying t = some d ∧ isAggD d = true := by
  unfold aggT at h
  cases hd : P.underlying t with
  | none => simp [hd] at h
  | some d => exact ⟨d, rfl, by simpa [hd] using h⟩

theorem info_of_underlying {t : TypeId} {d : TypeDesc} (h : P.underlying t = some d) : ∃ i, P.info? t = some i := by
  unfold Program.underlying at h
  split at h
  · exact ⟨_, by assumption⟩
  · exact ⟨_, by assumption⟩
  · cases h

theorem bin_sound {op : BinOp} {t : TypeId} {x y : AV} {ox oy : Operand} {vx vy : Value} (hx : VRel M true x vx) (hy : VRel M true y vy) {c : AV} (hc : binA P op t x y = some c) :
    ∃ v, (do eqGuard op t ox oy vx vy; binOp op t vx vy : Sem Value).run P M.w = .ok v M.w ∧ VRel M true c v := by
  unfold binA at hc
  split at hc
  · rename_i k a k' b
    simp only [VRel] at hx hy
    subst hx hy
    have hg : (eqGuard op t ox oy (.int k a) (.int k' b)).run P M.w = .ok () M.w := by cases op <;> simp [eqGuard]
    rw [Sem.run_bind, hg, Result.andThen_ok]
    cases op
    case shl =>
      simp only at hc
      split at hc
      · rename_i h0
        cases hc
        exact ⟨_, by simp [binOp, Op.shift, show ¬ b < 0 by omega], rfl⟩
      · cases hc
    case shr =>
      simp only at hc
      split at hc
      · rename_i h0
        cases hc
        exact ⟨_, by simp [binOp, Op.shift, show ¬ b < 0 by omega], rfl⟩
      · cases hc
    all_goals
      simp only at hc
      split at hc
      · rename_i hk
        subst hk
        simp only [intA] at hc
        first
          | (cases hc; exact ⟨_, by simp [binOp, Op.intArith, Op.intBits, Op.intCmp, bitsA], rfl⟩)
          | (split at hc
             · cases hc
             · rename_i hb
               cases hc
               exact ⟨_, by simp [binOp, Op.intDiv, hb], rfl⟩)
          | cases hc
      · cases hc
  · rename_i a b
    simp only [VRel] at hx hy
    subst hx hy
    have hg : (eqGuard op t ox oy (.string a) (.string b)).run P M.w = .ok () M.w := by cases op <;> simp [eqGuard]
    rw [Sem.run_bind, hg, Result.andThen_ok]
    cases op
    case add =>
      simp only [strOpA] at hc
      split at hc
      · rename_i hb
        cases hc
        have hmax : IntKind.i64.max = 9223372036854775807 := rfl
        have hno : ¬ (((a.size + b.size : Nat) : Int) > IntKind.i64.max) := by rw [hmax]; omega
        refine ⟨.string (a ++ b), ?_, rfl⟩
        simp only [binOp, Op.stringOp]
        rw [if_neg hno]
        rfl
      · cases hc
    all_goals
      simp only [strOpA] at hc
      first
        | (cases hc; exact ⟨_, by simp [binOp, Op.stringOp], rfl⟩)
        | cases hc
  · rename_i a b
    split at hc
    · rename_i hbt
      have hd : P.underlying t = some .bool := by
        unfold isBoolT at hbt
        split at hbt
        · rename_i i hi
          obtain ⟨inf, d, z, h1, h2, h3, h4, h5, h6, h7, h8⟩ := tyI_spec hi
          split at hbt
          · rename_i htd
            rw [h2, TD_bool (h8.symm.trans htd)]
          · cases hbt
        · cases hbt
      simp only [VRel] at hx hy
      subst hx hy
      have hg : (eqGuard op t ox oy (.bool a) (.bool b)).run P M.w = .ok () M.w := by cases op <;> simp [eqGuard]
      rw [Sem.run_bind, hg, Result.andThen_ok]
      have E : (Op.equalIn 10000 t (.bool a) (.bool b)).run P M.w = .ok (a == b) M.w := run_equalIn_bool M.w 9999 t a b hd
      cases op <;> simp only at hc <;> try (cases hc; done)
      · cases hc
        exact ⟨.bool (a == b), by simp only [binOp]; simp [Op.equal, Op.maxDepth, E], rfl⟩
      · cases hc
        exact ⟨.bool (a != b), by simp only [binOp]; simp [Op.equal, Op.maxDepth, E]; cases a <;> cases b <;> rfl, rfl⟩
    · cases hc
  · rename_i as bs
    split at hc
    · rename_i r hr
      unfold eqA at hr
      split at hr
      · rename_i ks hks
        split at hr
        · rename_i hcond
          obtain ⟨ka, kb, hag⟩ := hcond
          obtain ⟨xs, rfl, hxs⟩ := hx
          obtain ⟨ys, rfl, hys⟩ := hy
          obtain ⟨d, hd, hda⟩ := aggT_spec hag
          obtain ⟨inf, hinf⟩ := info_of_underlying hd
          unfold eqK at hks
          split at hks
          · cases hks
          · rename_i hgd
            have he : elI P t = some (inf.size, inf.bytes, true) := by simp [elI, hinf, hd, hda]
            have E := eqAt 8 t _ _ _ ks he hks M as bs xs ys r M.w 10000 (by omega) ka kb hxs hys hr
            simp only [valOf, if_true] at E
            have hg : (eqGuard op t ox oy (.agg ⟨xs⟩) (.agg ⟨ys⟩)).run P M.w = .ok () M.w := run_eqGuard_agg M.w op t ox oy _ _ (by simpa using hgd)
            rw [Sem.run_bind, hg, Result.andThen_ok]
            cases op <;> simp only at hc <;> try (cases hc; done)
            · cases hc
              refine ⟨.bool r, ?_, rfl⟩
              rw [run_eql_struct, E]; rfl
            · cases hc
              refine ⟨.bool !r, ?_, rfl⟩
              rw [run_neq_struct, E]; rfl
        · cases hr
      · cases hr
    · cases hc
  · cases hc

def unA (op : UnOp) (x : AV) : Option AV :=
  match op, x with
  | .neg, .int k n => some (.int k (k.wrap (0 - n)))
  | .xor, .int k n => some (.int k (bitsA .xor k (if k.signed then -1 else k.max) n))
  | .not, .bool b => some (.bool !b)
  | _, _ => none
theorem un_sound {op : UnOp} {x : AV} {v : Value} (hx : VRel M true x v) {c : AV} (hc : unA op x = some c) : ∃ u, (Op.unary op v).run P M.w = .ok u M.w ∧ VRel M true c u := by
  unfold unA at hc
  split at hc <;> cases hc <;> simp only [VRel] at hx <;> subst hx
  · exact ⟨_, by simp [Op.unary, Op.intArith], rfl⟩
  · exact ⟨_, by simp [Op.unary, Op.intBits, bitsA], rfl⟩
  · exact ⟨_, by simp [Op.unary], rfl⟩

def maxA (x y : AV) : Option AV :=
  match x, y with
  | .int k a, .int _ b => some (.int k (if b > a then b else a))
  | _, _ => none
def minA (x y : AV) : Option AV :=
  match x, y with
  | .int k a, .int _ b => some (.int k (if b < a then b else a))
  | _, _ => none
theorem max_sound {ts : Array TypeId} {ty : TypeId} {x y : AV} {vx vy : Value} (hx : VRel M true x vx) (hy : VRel M true y vy) {c : AV} (hc : maxA x y = some c) :
    ∃ v, (Builtin.max_ ts ty #[vx, vy]).run P M.w = .ok v M.w ∧ VRel M true c v := by
  unfold maxA at hc
  split at hc <;> cases hc
  simp only [VRel] at hx hy
  subst hx hy
  exact ⟨_, by simp [Builtin.max_, Builtin.max2], rfl⟩
theorem min_sound {ts : Array TypeId} {ty : TypeId} {x y : AV} {vx vy : Value} (hx : VRel M true x vx) (hy : VRel M true y vy) {c : AV} (hc : minA x y = some c) :
    ∃ v, (Builtin.min_ ts ty #[vx, vy]).run P M.w = .ok v M.w ∧ VRel M true c v := by
  unfold minA at hc
  split at hc <;> cases hc
  simp only [VRel] at hx hy
  subst hx hy
  exact ⟨_, by simp [Builtin.min_, Builtin.min2], rfl⟩
end Go.Am
