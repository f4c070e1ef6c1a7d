/-
  'Am', part 10: make, conversions, operators.
-/
import Derived.Test.YtfgojdnakidifaaAmOps7
set_option linter.unusedSimpArgs false
set_option linter.unusedVariables false
namespace Go.Am
variable {P : Program} {X : Ctx} {h : HP} {M : Mem}

/-! ### make -/
def makeA (P : Program) (i : TyI) (h : HP) (l c : AV) : Option (AV × HP) :=
  match i.td, l, c with
  | .slice e es _ eb, .int _ l, .int _ c => match tyI P e with
    | some ie => if ie.zero.length = es ∧ 0 ≤ l ∧ l ≤ c ∧ (eb : Int) * c ≤ 2 ^ 46 ∧ c ≤ 2 ^ 62 then
        some (.sl h.nt 0 es l.toNat, h.add ⟨zerosA ie.zero c.toNat, true⟩) else none
    | none => none
  | _, _, _ => none

theorem wrap_i64 (n : Int) (h0 : 0 ≤ n) (h1 : n ≤ 2 ^ 62) : IntKind.i64.wrap n = n := by
  simp [IntKind.wrap, IntKind.bits, IntKind.signed]
  omega

theorem make_sound (H : HRel X h M) {t : TypeId} {i : TyI} (hi : tyI P t = some i) {a b : AV} {va vb : Value} (ha : VRel M true a va) (hb : VRel M true b vb) {c : AV} {h' : HP}
    (hc : makeA P i h a b = some (c, h')) : ∃ M' v, (Instr.makeSlice t va vb).run P M.w = .ok v M'.w ∧ M.le M' ∧ M'.O = M.O ∧ HRel X h' M' ∧ VRel M' true c v := by
  obtain ⟨d, hd, hd2, hd3⟩ := run_underlyingI M.w hi
  unfold makeA at hc
  split at hc
  · rename_i e es ea eb kl l kc q htd
    obtain ⟨rfl, he⟩ := TD_slice (hd3.symm.trans htd)
    split at hc
    · rename_i ie hie
      split at hc
      · rename_i hcond
        obtain ⟨hz, h0, hle, hbb, h62⟩ := hcond
        cases hc
        simp only [VRel] at ha hb
        subst ha hb
        obtain ⟨inf, d, h1, h2, h3, h4, h5⟩ := elI_spec he
        subst h3 h4
        obtain ⟨z, hzr, hzz⟩ := run_zeroValue M.w hie
        have hzl : z.cells.size = inf.size := by rw [← hz, hzz]; simp
        have hzrel : VRels M true ie.zero z.cells.toList := by rw [hzz]; exact map_cellAV_rel M true _
        have hq : q = (q.toNat : Int) := by omega
        have hll : l = (l.toNat : Int) := by omega
        -- the cells
        obtain ⟨Z, hZ, hZl⟩ : ∃ Z : Array Value, (∀ K : Array Value → Sem Value, (if q.toNat * inf.size = 0 then ((pure #[] : Sem (Array Value)) >>= K) else (zeroValue e >>= fun a => (pure a.cells : Sem (Array Value)) >>= K)).run P M.w = (K Z).run P M.w) ∧
            ((Array.range (q.toNat * inf.size)).map (fun j => Z[j % Z.size]!)).toList = (List.replicate q.toNat z.cells.toList).flatten := by
          by_cases h0 : q.toNat * inf.size = 0
          · refine ⟨#[], fun K => by simp [h0], ?_⟩
            rw [h0]
            rcases Nat.mul_eq_zero.1 h0 with h1 | h1
            · simp [h1]
            · have : z.cells.toList = [] := List.eq_nil_of_length_eq_zero (by rw [Array.length_toList]; omega)
              simp [this]
          · exact ⟨z.cells, fun K => by simp [h0, hzr], zeros_list z.cells q.toNat inf.size hzl h0⟩
        have hrel : VRels M true (zerosA ie.zero q.toNat) ((Array.range (q.toNat * inf.size)).map (fun j => Z[j % Z.size]!)).toList := by
          rw [hZl]; exact zeros_rel hzrel _
        refine ⟨M.add (.cells ((Array.range (q.toNat * inf.size)).map (fun j => Z[j % Z.size]!)) e (0, 0)), .slice (some ⟨M.w.heap.size, 0, none⟩) l.toNat q.toNat, ?_, H.add_le _, rfl,
          H.add (k := ⟨zerosA ie.zero q.toNat, true⟩) hrel.toPre (fun _ => by have := hrel.length; simpa using this), ?_⟩
        · have e1 : IntKind.i64.wrap l = l := wrap_i64 l h0 (by omega)
          have e2 : IntKind.i64.wrap q = q := wrap_i64 q (by omega) h62
          have e3 : ¬ (q < 0) := by omega
          have e4 : ¬ ((inf.bytes : Int) * q > 2 ^ 48) := by omega
          have e5 : ¬ (l < 0) := by omega
          have e6 : ¬ (l > q) := by omega
          unfold Instr.makeSlice
          simp only [Sem.run_bind, hd, Result.andThen_ok, asInt, asIntOf, Sem.run_pure, typeInfo, run_program, h1, e1, e2, e3, e4, e5, e6, decide_false, Bool.or_self, Bool.false_eq_true, if_false, run_askRoom, run_sizeOf_el he]
          refine (hZ fun zero => do let a ← newRow e ((Array.range (q.toNat * inf.size)).map (zero[· % zero.size]!)); pure (.slice (some a) l.toNat q.toNat)).trans ?_
          rfl
        · rw [← H.n]
          exact slice_new M _ e inf.size l.toNat q.toNat (by omega) (by simp)
      · cases hc
    · cases hc
  · cases hc

/-! ### Conversions -/
def isU8 : AV → Bool
  | .int .u8 _ => true
  | _ => false
def u8of : AV → UInt8
  | .int _ n => UInt8.ofNat n.toNat
  | _ => 0
def strA (cs : List AV) : ByteArray := ⟨(cs.map u8of).toArray⟩

def u8T (P : Program) (e : TypeId) : Bool :=
  match tyI P e with
  | some i => (match i.td with | .int .u8 => true | _ => false)
  | none => false
theorem u8T_spec {e : TypeId} (h : u8T P e = true) : P.underlying e = some (.int .u8) := by
  unfold u8T at h
  split at h
  · rename_i i hi
    obtain ⟨inf, d, z, h1, h2, h3, h4, h5, h6, h7, h8⟩ := tyI_spec hi
    split at h
    · rename_i htd
      rw [h2, TD_int (h8.symm.trans htd)]
    · cases h
  · cases h

def convA (P : Program) (i i2 : TyI) (h : HP) (x : AV) : Option AV :=
  match x with
  | .int _ n => match i2.td with
    | .int k => some (.int k (k.wrap n))
    | _ => none
  | .str s => match i.td, i2.td with
    | .str, .str => some (.str s)
    | .str, .slice e _ _ _ => if u8T P e = true then some (.ro s.size (s.data.toList.map byteAV)) else none
    | _, _ => none
  | x => match i.td, i2.td with
    | .slice e es _ _, .str => if u8T P e = true ∧ es = 1 then (match srcA 1 h x with
      | some (_, cs) => if cs.all isU8 = true then some (.str (strA cs)) else none
      | none => none) else none
    | _, _ => none

theorem u8_list {M : Mem} {r : Bool} : ∀ {cs : List AV} {l : List Value}, VRels M r cs l → cs.all isU8 = true → ∃ ns : List Int, l = ns.map (Value.int .u8) ∧ (ns.map fun n => UInt8.ofNat n.toNat) = cs.map u8of
  | [], _, h, _ => by cases h; exact ⟨[], rfl, rfl⟩
  | c :: cs, _, ⟨v, vs, e, H, K⟩, ha => by
    subst e
    simp only [List.all_cons, Bool.and_eq_true] at ha
    obtain ⟨ns, rfl, h2⟩ := u8_list K ha.2
    cases c <;> simp only [isU8, Bool.false_eq_true, false_and] at ha
    rename_i k n
    cases k <;> simp at ha
    simp only [VRel] at H
    subst H
    exact ⟨n :: ns, rfl, by simp [u8of, h2]⟩

theorem drawn_ext (w : World) : Ext w w.drew := Ext.drawn w (w.drawn + 1)

theorem conv_sound (H : HRel X h M) {t t2 : TypeId} {i i2 : TyI} (hi : tyI P t = some i) (hi2 : tyI P t2 = some i2) {a : AV} {va : Value} (ha : VRel M true a va) {c : AV}
    (hc : convA P i i2 h a = some c) : ∃ M' v, (convert t t2 va).run P M.w = .ok v M'.w ∧ M.le M' ∧ M'.O = M.O ∧ HRel X h M' ∧ VRel M' true c v := by
  obtain ⟨d, hd, hd2, hd3⟩ := run_underlyingI M.w hi
  obtain ⟨d2, hq, hq2, hq3⟩ := run_underlyingI M.w hi2
  unfold convA at hc
  split at hc
  · rename_i k n
    split at hc
    · rename_i k2 htd
      obtain rfl := TD_int (hq3.symm.trans htd)
      cases hc
      simp only [VRel] at ha
      subst ha
      refine ⟨M, .int k2 (k2.wrap n), ?_, Mem.le.refl M, rfl, H, rfl⟩
      simp [convert, hd, hq, Conv.intToInt]
    · cases hc
  · rename_i s
    split at hc
    · rename_i h1 h2
      obtain rfl := TD_str (hd3.symm.trans h1)
      obtain rfl := TD_str (hq3.symm.trans h2)
      cases hc
      simp only [VRel] at ha
      subst ha
      refine ⟨M, .string s, ?_, Mem.le.refl M, rfl, H, rfl⟩
      simp [convert, hd, hq]
    · rename_i e es ea eb h1 h2
      obtain rfl := TD_str (hd3.symm.trans h1)
      obtain ⟨rfl, he⟩ := TD_slice (hq3.symm.trans h2)
      split at hc
      · rename_i hu
        cases hc
        simp only [VRel] at ha
        subst ha
        have hr := Lib.run_convert_string_bytes (P := P) M.w t t2 e s hd2 hq2 (u8T_spec hu)
        have hx : Ext M.w (Lib.bytesWorld M.w e s) := ⟨rfl, rfl, rfl, by rw [Lib.bytesWorld_size]; omega, fun k hk => Lib.bytesWorld_at_old M.w e s k hk⟩
        have HE := H.ext hx
        have hcap := grownCap_ge M.w s.size 0 e
        refine ⟨_, _, hr, HE.1, rfl, HE.2, ⟨some ⟨M.w.heap.size, 0, none⟩, grownCap M.w s.size 0 e, rfl, hcap, .inr ⟨M.w.heap.size, 0, _, _, _, rfl, Lib.bytesWorld_at_new M.w e s, ⟨fun id hD => ?_, fun hO => ?_⟩, ?_⟩⟩⟩
        · have := H.φ_lt hD
          show M.φ id ≠ _
          omega
        · have := H.old _ hO
          have := H.kept.size
          omega
        · refine VPre.of_get fun j c hj => ?_
          rw [List.getElem?_map] at hj
          cases hb : s.data.toList[j]? with
          | none => simp [hb] at hj
          | some b =>
            simp only [hb, Option.map_some, Option.some.injEq] at hj
            subst hj
            refine ⟨.int .u8 b.toNat, ?_, rfl⟩
            have hjl : j < s.data.size := by
              have := (List.getElem?_eq_some_iff.1 hb).1
              simpa using this
            have hb2 : s.data[j] = b := by
              have := (List.getElem?_eq_some_iff.1 hb).2
              simpa using this
            simp only [List.drop_zero, Lib.bytesCells, Array.toList_append, Array.toList_map]
            rw [List.getElem?_append_left (by simpa using hjl), List.getElem?_map, hb]
            rfl
      · cases hc
    · cases hc
  · split at hc
    · rename_i e es ea eb h1 h2
      obtain ⟨rfl, he⟩ := TD_slice (hd3.symm.trans h1)
      obtain rfl := TD_str (hq3.symm.trans h2)
      split at hc
      · rename_i hu
        split at hc
        · rename_i n cs hs
          split at hc
          · rename_i hall
            cases hc
            have hlen := srcA_length hs
            obtain ⟨_, hf⟩ := srcA_sound (P := P) H ha hs
            obtain ⟨l, hl, hrel⟩ := hf n (Nat.le_refl _)
            rw [List.take_of_length_le (by omega)] at hrel
            obtain ⟨ns, rfl, hns⟩ := u8_list hrel hall
            have hl := hl M.w.drawn
            have hsl : ∃ base cap, va = .slice base n cap ∧ (base = none → cs = []) := by
              unfold srcA at hs
              split at hs
              · split at hs <;> cases hs
                obtain ⟨base, cap, rfl, _, hcs⟩ := ha
                refine ⟨base, cap, rfl, fun hb => ?_⟩
                rcases hcs with h | ⟨_, _, _, _, _, h, _⟩
                · exact h
                · rw [hb] at h; cases h
              · cases hs; simp only [VRel] at ha; subst ha; exact ⟨none, 0, rfl, fun _ => rfl⟩
              · split at hs
                · rename_i k hk
                  split at hs <;> cases hs
                  obtain ⟨_, _, _, h7⟩ := ha
                  obtain ⟨cap, _, _, rfl, _⟩ := h7 ((H.dom _).2 (by simp [hk]))
                  exact ⟨_, cap, rfl, fun hb => by cases hb⟩
                · cases hs
              · rename_i hne
                exact (hne _ rfl).elim
              · cases hs
            obtain ⟨base, cap, rfl, hb0⟩ := hsl
            refine ⟨M, .string (strA cs), ?_, Mem.le.refl M, rfl, H, rfl⟩
            cases base with
            | none =>
              have := hb0 rfl
              subst this
              rw [run_convert_bytes_string M.w t t2 e _ _ _ hd2 (u8T_spec hu.1) hq2]
              rfl
            | some ad =>
              have hl2 : (loadCells ad n).run P M.w = .ok (ns.map (Value.int .u8)).toArray M.w := by
                simpa [Builtin.firstCells] using hl
              rw [run_convert_bytes_string M.w t t2 e _ _ _ hd2 (u8T_spec hu.1) hq2, run_bytesToString M.w ad n cap ns hl2, foldl_push_bytes, hns]
              simp [strA, ByteArray.empty, ByteArray.emptyWithCapacity]
              rfl
          · cases hc
        · cases hc
      · cases hc
    · cases hc

end Go.Am
