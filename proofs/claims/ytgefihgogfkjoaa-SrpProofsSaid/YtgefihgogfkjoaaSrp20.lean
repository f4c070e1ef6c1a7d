/-
  Srp20: known.
-/
import Derived.Test.YtgefihgogfkjoaaSrp19
set_option linter.unusedSimpArgs false
set_option linter.unusedVariables false
namespace Go.Proofs.Ytgefihgogfkjoaa
open Go.Am

def convB (o : Option Blk) (n : Nat) (h : HP) : Option (AV × HP) :=
  match o with
  | some k => if n ≤ k.cs.length ∧ k.cs.all isU8 = true then some (.ro n (k.cs.take n), h) else none
  | none => none
theorem convOwn_sl {bk : Nat → Option Blk} {nt id n : Nat} : convOwn Try.prog 22 22 ⟨bk, nt⟩ (.sl id 0 1 n) = convB (bk id) n ⟨upd bk id none, nt⟩ := by
  unfold convOwn convB
  rw [if_pos rfl, tyBytes]
  simp only
  cases bk id with
  | none => rfl
  | some k => simp only [u8Tb, true_and, HP.drop]
@[simp] theorem convB_1 {x : Int} {f : Bool} {h : HP} : convB (some ⟨bl [x], f⟩) 1 h = some (roB [x], h) := by
  simp [convB, roB, bl, u8A, isU8]
theorem hasG {P Q : Nat} (hG : GOk P Q) : HasP P Q 4 := by
  have h := hasP_sq (q := Q) (a := 2) (by rw [← hG.two]; exact hG.pr) (by
    have := hG.low
    rw [Nat.mod_eq_of_lt (by omega)]; decide)
  rw [← hG.two, Nat.mod_eq_of_lt (by have := hG.low; have := hG.two; omega)] at h
  exact h
theorem leaf_recL {r : RD} (h : leafOk r.salt = true) : (recL r).all leafOk = true := by
  simp only [recL, List.all_append, List.all_cons, List.all_nil, leaf_numL, h, Bool.and_true, Bool.true_and]
  rfl
theorem store_rec {r : RD} (h : leafOk r.salt = true) {b id off nt : Nat} {a : Bool} {z : List AV} {td : TD} {bk : Nat → Option Blk} : storeA ⟨23, b, a, z, td⟩ ⟨bk, nt⟩ (.ptr id off) (rec_ r) = blkT (bk id) fun k => (putSeg k.cs off (recL r)).map fun cs => ⟨upd bk id (some ⟨cs, k.fix⟩), nt⟩ :=
  store_agg (recL_length r) (leaf_recL h)
theorem putR_all {r t : RD} : putSeg (recL r) 0 (recL t) = some (recL t) := putSeg_all (by simp)
theorem putR_proto {r : RD} (p : Int) : putSeg (recL r) 0 [.int .i64 p] = some (recL { r with proto := p }) := putSeg_left (by rfl)
theorem putR_name {r : RD} (n : ByteArray) : putSeg (recL r) 1 [.str n] = some (recL { r with name := n }) := putSeg_left (by rfl)
theorem putR_salt {r : RD} (x : AV) : putSeg (recL r) 2 [x] = some (recL { r with salt := x }) := putSeg_left (by rfl)
theorem build_rec {name : ByteArray} {salt : AV} {v : Nat} {p : Int} (hc : cellsA salt = some [salt]) : buildA ⟨23, 160, true, recL rec0, .struct recF⟩ [(0, .int .i64 p), (1, .str name), (2, salt), (3, num v)] = some (rec_ ⟨p, name, salt, v⟩) := by
  unfold buildA
  simp only
  rw [fill_step rfl (show cellsA (.int .i64 p) = some [.int .i64 p] from rfl) rfl (putR_proto _), fill_step rfl (show cellsA (.str name) = some [.str name] from rfl) rfl (putR_name _), fill_step rfl hc rfl (putR_salt _), fill_step rfl (cellsA_num v) (by simp) (putR_v v)]
  rfl
theorem build_rec3 {name : ByteArray} {v : Nat} {p : Int} : buildA ⟨23, 160, true, recL rec0, .struct recF⟩ [(0, .int .i64 p), (1, .str name), (3, num v)] = some (rec_ ⟨p, name, .nils, v⟩) := by
  unfold buildA
  simp only
  rw [fill_step rfl (show cellsA (.int .i64 p) = some [.int .i64 p] from rfl) rfl (putR_proto _), fill_step rfl (show cellsA (.str name) = some [.str name] from rfl) rfl (putR_name _), fill_step rfl (cellsA_num v) (by simp) (putR_v v)]
  rfl
theorem keyedS_key {s : SD} {salt : List Int} {S : Nat} : (keyedS s salt S).key = keyI S := rfl
theorem arg_nil {P : Program} {f : FuncId} {a r : AV} (h : ASpec P f [a, roB []] r) : ASpec P f [a, .nils] r := by
  refine ASpec.arg (fun M l hl => ?_) h
  obtain ⟨v, vs, rfl, h1, w, vs2, rfl, h2, h3⟩ := hl
  exact ⟨v, _, rfl, h1, w, vs2, rfl, nils_ro _ _ _ h2, h3⟩
/-- The run of both, by the record's password: what each call hands back. -/
structure Run (gB : Int) (P Q : Nat) (name : ByteArray) (pass salt p q : List Int) (V A b : Nat) (c s d : SD) : Prop where
  v : HasP P Q V
  a : HasP P Q A
  bP : b < P
  ver : ASpec Try.prog 14 [group gB P Q 4, .str name, roB pass, roB salt] (num V)
  rver : ASpec Try.prog 22 [group gB P Q 4, .str name, roB pass, roB salt] (num V)
  hel : ASpec Try.prog 15 [group gB P Q 4, .str name, roB pass, roB p] (.tup [side c, num A])
  off : ASpec Try.prog 16 [group gB P Q 4, rec_ ⟨1, name, roB salt, V⟩, num A, roB q] (if b = 0 then .tup [side side0, num 0, .bool false] else .tup [side s, num b, .bool true])
  roff : ASpec Try.prog 17 [group gB P Q 4, rec_ ⟨1, name, roB salt, V⟩, num A, roB q] (if b = 0 then .tup [side side0, num 0, .bool false] else .tup [side s, num b, .bool true])
  prov : b ≠ 0 → ASpec Try.prog 18 [side c, roB salt, num b] (.tup [side d, smA d.proof, .bool true])
  okc : c.ok
  oks : s.ok
  okd : d.ok
  key : d.key = s.key
  proof : d.proof = s.proof
  sB : IsB s.proof
theorem run {gB : Int} {P Q : Nat} (hG : GOk P Q) (name : ByteArray) (pass salt p q : List Int) (hn : name.size ≤ 100000) (hp : pass.length ≤ 100000) (hs : salt.length ≤ 100000) (hd : p.length ≤ 100000) (he : q.length ≤ 100000) :
    Run gB P Q name pass salt p q (4 ^ xI Q (strB name) pass salt % P) (4 ^ exW Q [[97], p] % P) (offB P Q 4 (4 ^ xI Q (strB name) pass salt % P) (exW Q [[98], q])) (helloS gB P Q 4 name pass p)
      (offS gB P Q 4 name salt (4 ^ xI Q (strB name) pass salt % P) (4 ^ exW Q [[97], p] % P) (exW Q [[98], q]))
      (provS (helloS gB P Q 4 name pass p) pass salt (offB P Q 4 (4 ^ xI Q (strB name) pass salt % P) (exW Q [[98], q]))) := by
  have h4 := hasG hG
  have hl := hG.low
  have h2 := hG.two
  have hx := exI_range (Q := Q) (stretchI (macI [] [[120], strB name, pass]) salt) (by omega)
  have hv : HasP P Q (4 ^ xI Q (strB name) pass salt % P) := has_pow hG.qr h4 (by unfold xI; omega) (by unfold xI; omega)
  have ha1 := exW_range (Q := Q) [[97], p] (by omega)
  have hb1 := exW_range (Q := Q) [[98], q] (by omega)
  have ha : HasP P Q (4 ^ exW Q [[97], p] % P) := has_pow hG.qr h4 (by omega) (by omega)
  have hg4 : 4 < P := by omega
  have hbP : offB P Q 4 (4 ^ xI Q (strB name) pass salt % P) (exW Q [[98], q]) < P := Nat.mod_lt _ (by omega)
  have hh := honest (gB := gB) (P := P) (Q := Q) (G := 4) (by omega) h4.2.2 name pass salt p (exW Q [[98], q])
  refine ⟨hv, ha, hbP, gverifier hG hg4 name pass salt hn hp hs, rverifier hG hg4 name pass salt hn hp hs, hello hG hg4 name pass p hp hd,
    goffer (r := ⟨1, name, roB salt, _⟩) q hG hg4 rfl hs he hn ha hv, roffer (r := ⟨1, name, roB salt, _⟩) q hG hg4 rfl hs he hn ha hv, fun h0 => ?_, helloS_ok _ _ _ _ _ _ _, keyedS_ok (offI_ok _ _ _ _ _ _ _ _ _) _ _, keyedS_ok ⟨rfl, rfl, rfl, rfl, rfl, rfl⟩ _ _, hh.1, hh.2, isB_proofI _ _ _ _ _⟩
  have s := gprove (s := helloS gB P Q 4 name pass p) (helloS_ok _ _ _ _ _ _ _) (pass := pass) (salt := salt) rfl hG hg4 (show exW Q [[97], p] < Q by omega) hp hs hn h0 hbP
  have hb : provB P Q 4 (xI Q (strB name) pass salt) (offB P Q 4 (4 ^ xI Q (strB name) pass salt % P) (exW Q [[98], q])) = 4 ^ exW Q [[98], q] % P := prov_base (by omega)
  have hbH : HasP P Q (4 ^ exW Q [[98], q] % P) := has_pow hG.qr h4 (by omega) (by omega)
  rw [← hb] at hbH
  rw [if_pos] at s
  · exact s
  · exact hbH
theorem known7 : ASpec Try.prog 11 [] (.bool true) := by
  refine ASpec.start 1000 Try.func11 (fn := Try.f11) rfl (by decide) mixed (by kernel_rfl) (by simp) ?_
  have hW := W_big
  obtain ⟨N, hs⟩ := safe15
  have hG : GOk 32603 16301 := GOk.of hs (by decide)
  have g1 := group_at (n := 3) (i := 3) hs (by decide) (by decide) (by decide) rfl (within4 3 9 (by decide) (by decide))
  have gl : ∀ x : Int, [x].length ≤ 100000 := fun x => by simp
  have R := run (gB := 15) hG ⟨#[117]⟩ [112] [115] [49] [50] (by decide) (gl _) (gl _) (gl _) (gl _)
  have hb0 : offB 32603 16301 4 (4 ^ xI 16301 (strB ⟨#[117]⟩) [112] [115] % 32603) (exW 16301 [[98], [50]]) ≠ 0 := by
    rw [show strB ⟨#[117]⟩ = [117] from rfl, kn_X, kn_B, kn_b]; decide
  generalize offB 32603 16301 4 (4 ^ xI 16301 (strB ⟨#[117]⟩) [112] [115] % 32603) (exW 16301 [[98], [50]]) = b at *
  generalize 4 ^ xI 16301 (strB ⟨#[117]⟩) [112] [115] % 32603 = V at *
  generalize 4 ^ exW 16301 [[97], [49]] % 32603 = A at *
  generalize offS 15 32603 16301 4 ⟨#[117]⟩ [115] V A (exW 16301 [[98], [50]]) = S at *
  generalize provS (helloS 15 32603 16301 4 ⟨#[117]⟩ [112] [49]) [112] [115] b = D at *
  generalize helloS 15 32603 16301 4 ⟨#[117]⟩ [112] [49] = c at *
  obtain ⟨hv, ha, hbP, s1, -, s2, s3, -, s4, okc, oks, okd, hkey, hproof, hsB⟩ := R
  have s4 := s4 hb0
  rw [if_neg hb0] at s3
  have s5 := gcheck oks hsB hsB (by have := oks.proof; omega)
  rw [if_pos rfl, decide_eq_true rfl] at s5
  have s6 := gdone okd (l := secI D.key D.proof) (isB_secI _ _) (by simp)
  rw [decide_eq_true rfl] at s6
  have s7 := gdone side0_ok (l := []) (fun b hb => by cases hb) (by simp)
  rw [decide_eq_false (fun h => by have := congrArg List.length h; simp at this)] at s7
  rw [hproof] at s4
  rw [hkey, hproof] at s6
  have hsl := oks.proof
  have hkl := oks.key
  simp (disch := omega) [ini, upd_eq]
  refine callT_of g1 rfl (by simp) ?_
  simp (disch := omega) [upd_eq, tyGroup, tyBytes, build1b, convOwn_sl]
  refine callT_of s1 (by simp [noRefs, noRef]) rfl ?_
  have okr : leafOk (RD.salt ⟨1, ⟨#[117]⟩, roB [115], V⟩) = true := rfl
  simp (disch := omega) [upd_eq, tyRec, tyGroup, tyBytes, build_rec (cellsA_roB _), store_rec okr, putR_all, build1b, convOwn_sl]
  refine callT_of s2 (by simp [noRefs, noRef]) (by simp [noRef, noRefs, noRef_side okc]) ?_
  simp (disch := omega) [upd_eq, tyRec, tyGroup, tyBytes, tyNum, tySide, store_side okc, putS_all side0_ok okc, build1b, convOwn_sl]
  refine callT_of s3 (by simp [noRefs, noRef_rec (r := ⟨1, ⟨#[117]⟩, roB [115], V⟩) rfl]) (by simp [noRef, noRefs, noRef_side oks]) ?_
  simp (disch := omega) [upd_eq, tyRec, tyGroup, tyBytes, tyNum, tySide, store_side oks, putS_all side0_ok oks, segS_all okc]
  refine callT_of s4 (by simp [noRefs, noRef_side okc]) (by simp [noRef, noRefs, noRef_side okd]) ?_
  simp (disch := omega) [upd_eq, tySum, tyNum, tySide, store_side okd, putS_all side0_ok okd, segS_all oks, store_smA hsl, putSeg_bl (l := z16) (m := S.proof) (by simp [hsl]), segA_bl hsl]
  refine callT_of (rbytesS S.proof hsl) (by simp [noRefs]) rfl ?_
  simp (disch := omega) [upd_eq]
  refine callT_of s5 (by simp [noRefs, noRef_side oks]) (by simp [noRef, noRefs]) ?_
  simp (disch := omega) [upd_eq, tySum, tySide, store_smA (secI_length _ _), putSeg_bl (l := z16) (m := secI S.key S.proof) (by simp), build_side0]
  refine callT_of (arg_nil s7) (by simp [noRefs, noRef, noRef_side side0_ok]) rfl ?_
  simp (disch := omega) [upd_eq, tySum, tySide, segS_all okd, segA_bl (secI_length _ _)]
  refine callT_of (rbytesS (secI S.key S.proof) (by simp)) (by simp [noRefs]) rfl ?_
  simp (disch := omega) [upd_eq]
  refine callT_of s6 (by simp [noRefs, noRef_side okd]) rfl ?_
  simp (disch := omega) [upd_eq, tySum, tySide, segS_key okd, segS_key oks, hkey, eql_sum hkl hkl, resA_L Try.results11, view, view1, noRef]
end Go.Proofs.Ytgefihgogfkjoaa
