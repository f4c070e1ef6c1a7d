/-
  'Am', part 24: loops whose blocks move; slices that are shown; append.
-/
import Derived.Test.YtfgojdnakidifaaAmBits
set_option linter.unusedSimpArgs false
set_option linter.unusedVariables false
namespace Go.Am
variable {P : Program}

/-- A loop by a measure; a round's end may have its blocks elsewhere. -/
theorem goT_downR {fn : FnE} {todo : List Item} {σ : AS} {r : AV} {t1 t2 t3} {X : Type} (μ : X → Nat) (l : X → List (Nat × AV)) (b : X → List (Nat × Blk)) (nt : Nat) (I : X → Prop)
    (round : ∀ x, I x → (∀ y σ' ρ, I y → μ y < μ x → Weak ρ (l y) (b y) nt σ' → goT P fn todo r ⟨⟩ ⟨⟩ ⟨⟩ σ') → goT P fn todo r ⟨⟩ ⟨⟩ ⟨⟩ (st (l x) (b x) nt))
    (x0 : X) (ρ : Nat → Nat) (hI : I x0) (h0 : Weak ρ (l x0) (b x0) nt σ) : goT P fn todo r t1 t2 t3 σ := by
  have key : ∀ n x, μ x = n → I x → goT P fn todo r ⟨⟩ ⟨⟩ ⟨⟩ (st (l x) (b x) nt) := by
    intro n
    induction n using Nat.strongRecOn with
    | _ n ih => intro x hx hi; exact round x hi fun y σ' ρ hy hlt h => goT_weak ρ h (ih (μ y) (by omega) y rfl hy)
  exact goT_weak ρ h0 (key _ x0 rfl hI)

section
variable {bk : Nat → Option Blk} {nt : Nat} {id off s b : Nat} {a : Bool} {z : List AV}
theorem noRefs_take : ∀ {l : List AV} (k : Nat), noRefs l = true → noRefs (l.take k) = true
  | _, 0, _ => rfl
  | [], _ + 1, h => h
  | c :: l, k + 1, h => by
    simp only [noRefs, Bool.and_eq_true] at h
    simp only [List.take_succ_cons, noRefs, Bool.and_eq_true]
    exact ⟨h.1, noRefs_take k h.2⟩
theorem noRefs_drop : ∀ {l : List AV} (k : Nat), noRefs l = true → noRefs (l.drop k) = true
  | _, 0, h => h
  | [], _ + 1, h => h
  | c :: l, k + 1, h => by
    simp only [noRefs, Bool.and_eq_true] at h
    exact noRefs_drop k h.2
theorem view_sl {es n : Nat} {cs : List AV} {f : Bool} (hb : bk id = some ⟨cs, f⟩) (hl : off + n * es ≤ cs.length) (hn : noRefs cs = true) : view ⟨bk, nt⟩ (.sl id off es n) = .ro n ((cs.drop off).take (n * es)) := by
  have h2 : noRefs ((cs.drop off).take (n * es)) = true := noRefs_take _ (noRefs_drop _ hn)
  simp [view, view1, srcA, hb, hl, h2]
theorem append_own {e e2 es es2 eb eb2 s2 b2 n m : Nat} {ea ea2 a2 f : Bool} {z2 cs new : List AV} {src : AV} (hb : bk id = some ⟨cs, f⟩) (hs : srcA es ⟨bk, nt⟩ src = some (m, new)) (hz : zOk P e es = true) (hl : n * es ≤ cs.length) (ha : new.all leafOk = true)
    (h1 : (n + m) * eb ≤ 2 ^ 46) (h2 : n + m ≤ 2 ^ 62) :
    appendA P ⟨s, b, a, z, .slice e es ea eb⟩ ⟨s2, b2, a2, z2, .slice e2 es2 ea2 eb2⟩ ⟨bk, nt⟩ (.sl id 0 es n) src = some (.sl nt 0 es (n + m), ⟨upd (upd bk id none) nt (some ⟨cs.take (n * es) ++ new, false⟩), nt + 1⟩) := by
  simp only [appendA, appendB, hs, hz, ha, hb, hl, h1, h2, and_self, if_true, HP.move]
theorem append_nils {e e2 es es2 eb eb2 s2 b2 m : Nat} {ea ea2 a2 : Bool} {z2 new : List AV} {src : AV} (hs : srcA es ⟨bk, nt⟩ src = some (m, new)) (hz : zOk P e es = true) (ha : new.all leafOk = true) (hm : m ≠ 0)
    (h1 : m * eb ≤ 2 ^ 46) (h2 : m ≤ 2 ^ 62) :
    appendA P ⟨s, b, a, z, .slice e es ea eb⟩ ⟨s2, b2, a2, z2, .slice e2 es2 ea2 eb2⟩ ⟨bk, nt⟩ .nils src = some (.sl nt 0 es m, ⟨upd bk nt (some ⟨new, false⟩), nt + 1⟩) := by
  simp only [appendA, appendB, hs, hz, ha, hm, h1, h2, and_self, if_true, if_false, HP.add]
/-- A slice of one cell an element, made of its elements. -/
theorem build4 {e eb : Nat} {ea : Bool} {ie : TyI} (hi : tyI P e = some ie) (hsz : ie.size = 1) (hz : ie.zero.length = 1) {x0 x1 x2 x3 : Int} :
    buildSliceA P ⟨s, b, a, z, .slice e 1 ea eb⟩ ⟨bk, nt⟩ 4 [(0, .int .u8 x0), (1, .int .u8 x1), (2, .int .u8 x2), (3, .int .u8 x3)] = some (.sl nt 0 1 4, ⟨upd bk nt (some ⟨[.int .u8 x0, .int .u8 x1, .int .u8 x2, .int .u8 x3], true⟩), nt + 1⟩) := by
  obtain ⟨c, hc⟩ : ∃ c, ie.zero = [c] := by
    match h : ie.zero, hz with
    | [c], _ => exact ⟨c, rfl⟩
  have hf : fillA (fun j => some (j * 1, 1)) (zerosA [c] 4) [(0, .int .u8 x0), (1, .int .u8 x1), (2, .int .u8 x2), (3, .int .u8 x3)] = some [.int .u8 x0, .int .u8 x1, .int .u8 x2, .int .u8 x3] := by rfl
  simp only [buildSliceA, hi, hsz, hc, hf, HP.add]
  rfl
end
end Go.Am
