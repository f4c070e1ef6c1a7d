/-
  No cell of these rows narrows 'for every input' (looked for: loops, veiled, ifaces, maps, wideKeys, modest, calm, conditions, laid).
  DERIVED. THE GIVEN ROWS OF THIS SEAT. 5 by the template 'for every input the law returns true; each argument reads behind the call as it read before'; 0 by the template 'total and deterministic' (their statements: YtmhfidobnfbniaaTotals.lean).
  GIVEN WITH THE SEED: the statements are not yours to turn. If you find one false, say at which input.
  Laid BY PROGRAM, IN A SANDBOX (cutbox-rows.mjs): the forced cells as the released guide's own fill.sh prints them over the translation ebbe82bcac9477a7… (all of the seat's roots in one cut). By AI agents, Wed Nov 11 2026. No macro, syntax, notation, axiom, sorry.
-/
import Derived.Test.YtmhfidobnfbniaaChecked
import GoSem.Claim
import GoSem.ClaimJoined
import GoSem.ClaimMapViews
import Derived.JoinedTies
import Derived.KernelRfl
namespace Go.Proofs.Ytmhfidobnfbniaa
/- THE CELL 'sum', in the pinned program and in every row, IS THE sha256 OF THE DUMP (.gsa) THAT YtmhfidobnfbniaaProg.lean LOADS. Nothing in Lean hashes anything: it is a label: what it is worth is what the hold of that sum in a sandbox is worth. -/
noncomputable def Try.pinned : Pinned := { name := "ytmhfidobnfbniaa", sum := "ebbe82bcac9477a710ddf7b4f70869a321d54f2541e07a97ac5ff807ec0b0a6e", checked := Try.checked }
namespace Rows
def none {H : Type} : Left H := { results := [], args := [] }

/-- 'sentinellaw4.GroupMakes': WHATEVER THE INPUT: true; the input reads as it did. -/
def groupMakesSpec : ChangeSpec := { name := "groupMakes", fn := fun _ => fun
  | [d1, d2] => { results := [.lit (.bool true)], args := [d1, d2] }
  | _ => none }
def groupMakesRow : OpenClaim := { program := "ytmhfidobnfbniaa", sum := "ebbe82bcac9477a710ddf7b4f70869a321d54f2541e07a97ac5ff807ec0b0a6e", func := "sentinel/sentinellaw4.GroupMakes", spec := "groupMakes", apart := false }
def GroupMakesSaid : Prop := groupMakesRow.holds Try.pinned (OpenSpec.ofChange groupMakesSpec)

/-- ITS FALSE NEIGHBOUR: 'it returns false'. Refute it at one input. -/
def groupMakesWrong : ChangeSpec := { name := "groupMakes", fn := fun _ => fun
  | [d1, d2] => { results := [.lit (.bool false)], args := [d1, d2] }
  | _ => none }
def GroupMakesWrongFalsely : Prop := groupMakesRow.holds Try.pinned (OpenSpec.ofChange groupMakesWrong)

/-- 'sentinellaw4.GroupPrimes': WHATEVER THE INPUT: true; the input reads as it did. -/
def groupPrimesSpec : ChangeSpec := { name := "groupPrimes", fn := fun _ => fun
  | [d1, d2, d3, d4] => { results := [.lit (.bool true)], args := [d1, d2, d3, d4] }
  | _ => none }
def groupPrimesRow : OpenClaim := { program := "ytmhfidobnfbniaa", sum := "ebbe82bcac9477a710ddf7b4f70869a321d54f2541e07a97ac5ff807ec0b0a6e", func := "sentinel/sentinellaw4.GroupPrimes", spec := "groupPrimes", apart := false }
def GroupPrimesSaid : Prop := groupPrimesRow.holds Try.pinned (OpenSpec.ofChange groupPrimesSpec)

/-- ITS FALSE NEIGHBOUR: 'it returns false'. Refute it at one input. -/
def groupPrimesWrong : ChangeSpec := { name := "groupPrimes", fn := fun _ => fun
  | [d1, d2, d3, d4] => { results := [.lit (.bool false)], args := [d1, d2, d3, d4] }
  | _ => none }
def GroupPrimesWrongFalsely : Prop := groupPrimesRow.holds Try.pinned (OpenSpec.ofChange groupPrimesWrong)

/-- 'sentinellaw4.GroupPowers': WHATEVER THE INPUT: true; the input reads as it did. -/
def groupPowersSpec : ChangeSpec := { name := "groupPowers", fn := fun _ => fun
  | [d1, d2, d3, d4, d5] => { results := [.lit (.bool true)], args := [d1, d2, d3, d4, d5] }
  | _ => none }
def groupPowersRow : OpenClaim := { program := "ytmhfidobnfbniaa", sum := "ebbe82bcac9477a710ddf7b4f70869a321d54f2541e07a97ac5ff807ec0b0a6e", func := "sentinel/sentinellaw4.GroupPowers", spec := "groupPowers", apart := false }
def GroupPowersSaid : Prop := groupPowersRow.holds Try.pinned (OpenSpec.ofChange groupPowersSpec)

/-- ITS FALSE NEIGHBOUR: 'it returns false'. Refute it at one input. -/
def groupPowersWrong : ChangeSpec := { name := "groupPowers", fn := fun _ => fun
  | [d1, d2, d3, d4, d5] => { results := [.lit (.bool false)], args := [d1, d2, d3, d4, d5] }
  | _ => none }
def GroupPowersWrongFalsely : Prop := groupPowersRow.holds Try.pinned (OpenSpec.ofChange groupPowersWrong)

/-- 'sentinellaw4.GroupOuts': WHATEVER THE INPUT: true; the input reads as it did. -/
def groupOutsSpec : ChangeSpec := { name := "groupOuts", fn := fun _ => fun
  | [d1, d2, d3, d4] => { results := [.lit (.bool true)], args := [d1, d2, d3, d4] }
  | _ => none }
def groupOutsRow : OpenClaim := { program := "ytmhfidobnfbniaa", sum := "ebbe82bcac9477a710ddf7b4f70869a321d54f2541e07a97ac5ff807ec0b0a6e", func := "sentinel/sentinellaw4.GroupOuts", spec := "groupOuts", apart := false }
def GroupOutsSaid : Prop := groupOutsRow.holds Try.pinned (OpenSpec.ofChange groupOutsSpec)

/-- ITS FALSE NEIGHBOUR: 'it returns false'. Refute it at one input. -/
def groupOutsWrong : ChangeSpec := { name := "groupOuts", fn := fun _ => fun
  | [d1, d2, d3, d4] => { results := [.lit (.bool false)], args := [d1, d2, d3, d4] }
  | _ => none }
def GroupOutsWrongFalsely : Prop := groupOutsRow.holds Try.pinned (OpenSpec.ofChange groupOutsWrong)

/-- 'sentinellaw4.GroupPowersOf': WHATEVER THE INPUT: true; the input reads as it did. -/
def groupPowersOfSpec : ChangeSpec := { name := "groupPowersOf", fn := fun _ => fun
  | [d1, d2, d3, d4, d5] => { results := [.lit (.bool true)], args := [d1, d2, d3, d4, d5] }
  | _ => none }
def groupPowersOfRow : OpenClaim := { program := "ytmhfidobnfbniaa", sum := "ebbe82bcac9477a710ddf7b4f70869a321d54f2541e07a97ac5ff807ec0b0a6e", func := "sentinel/sentinellaw4.GroupPowersOf", spec := "groupPowersOf", apart := false }
def GroupPowersOfSaid : Prop := groupPowersOfRow.holds Try.pinned (OpenSpec.ofChange groupPowersOfSpec)

/-- ITS FALSE NEIGHBOUR: 'it returns false'. Refute it at one input. -/
def groupPowersOfWrong : ChangeSpec := { name := "groupPowersOf", fn := fun _ => fun
  | [d1, d2, d3, d4, d5] => { results := [.lit (.bool false)], args := [d1, d2, d3, d4, d5] }
  | _ => none }
def GroupPowersOfWrongFalsely : Prop := groupPowersOfRow.holds Try.pinned (OpenSpec.ofChange groupPowersOfWrong)

/- THE SECOND FORM. 'bulk': how many values and letters a reading holds, each counted each time it is reached (what is shared counts as often as it is met; a slice's spare places count too). A statement '..UptoSaid' is the law's where the arguments, and the package variables that the reading takes, are together of bulk at most 1048576: NARROWER than '..Said'. Prove '..Said' where nothing that the law and all that it calls make is longer than what came in: it says more and counts as full. Else prove '..UptoSaid'. A law counts once. -/
mutual
def uptoBulk {H : Type} : DataW H → Nat
  | .lit (.string bytes) => bytes.length + 1
  | .lit _ => 1
  | .nil => 1
  | .ptr d => uptoBulk d + 1
  | .slice elems spare => uptoBulkAll elems + uptoBulkAll spare + 1
  | .agg parts => uptoBulkAll parts + 1
  | .iface _ d => uptoBulk d + 1
  | .map entries => uptoBulkEntries entries + 1
  | .held _ => 1
def uptoBulkAll {H : Type} : List (DataW H) → Nat
  | [] => 0
  | d :: r => uptoBulk d + uptoBulkAll r
def uptoBulkEntries {H : Type} : List (Lit × DataW H) → Nat
  | [] => 0
  | x :: r => uptoBulkEntry x + uptoBulkEntries r
def uptoBulkEntry {H : Type} : Lit × DataW H → Nat
  | (.string bytes, d) => bytes.length + uptoBulk d + 1
  | (_, d) => uptoBulk d + 1
 end
def uptoSmall : (H : Type) → List (DataW H) → Bool := fun _ ds => decide (uptoBulkAll ds ≤ 1048576)
def OpenSpec.upto (s : _root_.Go.ChangeSpec) : _root_.Go.OpenSpec := { _root_.Go.OpenSpec.ofChange s with cond := some uptoSmall }

/-- 'sentinellaw4.GroupMakes', WHERE WHAT IT READS IS OF BULK AT MOST 1048576: true; the input reads as it did. -/
def groupMakesUptoRow : OpenClaim := { program := "ytmhfidobnfbniaa", sum := "ebbe82bcac9477a710ddf7b4f70869a321d54f2541e07a97ac5ff807ec0b0a6e", func := "sentinel/sentinellaw4.GroupMakes", spec := "groupMakes", apart := false, narrowed := true }
def GroupMakesUptoSaid : Prop := groupMakesUptoRow.holds Try.pinned (OpenSpec.upto groupMakesSpec)

/-- 'sentinellaw4.GroupPrimes', WHERE WHAT IT READS IS OF BULK AT MOST 1048576: true; the input reads as it did. -/
def groupPrimesUptoRow : OpenClaim := { program := "ytmhfidobnfbniaa", sum := "ebbe82bcac9477a710ddf7b4f70869a321d54f2541e07a97ac5ff807ec0b0a6e", func := "sentinel/sentinellaw4.GroupPrimes", spec := "groupPrimes", apart := false, narrowed := true }
def GroupPrimesUptoSaid : Prop := groupPrimesUptoRow.holds Try.pinned (OpenSpec.upto groupPrimesSpec)

/-- 'sentinellaw4.GroupPowers', WHERE WHAT IT READS IS OF BULK AT MOST 1048576: true; the input reads as it did. -/
def groupPowersUptoRow : OpenClaim := { program := "ytmhfidobnfbniaa", sum := "ebbe82bcac9477a710ddf7b4f70869a321d54f2541e07a97ac5ff807ec0b0a6e", func := "sentinel/sentinellaw4.GroupPowers", spec := "groupPowers", apart := false, narrowed := true }
def GroupPowersUptoSaid : Prop := groupPowersUptoRow.holds Try.pinned (OpenSpec.upto groupPowersSpec)

/-- 'sentinellaw4.GroupOuts', WHERE WHAT IT READS IS OF BULK AT MOST 1048576: true; the input reads as it did. -/
def groupOutsUptoRow : OpenClaim := { program := "ytmhfidobnfbniaa", sum := "ebbe82bcac9477a710ddf7b4f70869a321d54f2541e07a97ac5ff807ec0b0a6e", func := "sentinel/sentinellaw4.GroupOuts", spec := "groupOuts", apart := false, narrowed := true }
def GroupOutsUptoSaid : Prop := groupOutsUptoRow.holds Try.pinned (OpenSpec.upto groupOutsSpec)

/-- 'sentinellaw4.GroupPowersOf', WHERE WHAT IT READS IS OF BULK AT MOST 1048576: true; the input reads as it did. -/
def groupPowersOfUptoRow : OpenClaim := { program := "ytmhfidobnfbniaa", sum := "ebbe82bcac9477a710ddf7b4f70869a321d54f2541e07a97ac5ff807ec0b0a6e", func := "sentinel/sentinellaw4.GroupPowersOf", spec := "groupPowersOf", apart := false, narrowed := true }
def GroupPowersOfUptoSaid : Prop := groupPowersOfUptoRow.holds Try.pinned (OpenSpec.upto groupPowersOfSpec)

end Rows
end Go.Proofs.Ytmhfidobnfbniaa
