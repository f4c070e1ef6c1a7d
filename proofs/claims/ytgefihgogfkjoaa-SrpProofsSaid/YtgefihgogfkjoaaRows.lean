/-
  No cell of these rows narrows 'for every input' (looked for: loops, veiled, ifaces, maps, wideKeys, modest, calm, conditions, laid).
  DERIVED. THE GIVEN ROWS OF THIS SEAT. 8 by the template 'for every input the law returns true; each argument reads behind the call as it read before'; 0 by the template 'total and deterministic' (their statements: YtgefihgogfkjoaaTotals.lean).
  GIVEN WITH THE SEED: the statements are not yours to turn. If you find one false, say at which input.
  Laid BY PROGRAM, IN A SANDBOX (cutbox-rows.mjs): the forced cells as the released guide's own fill.sh prints them over the translation 57c50045a6b93f41… (all of the seat's roots in one cut). By AI agents, Wed Nov 11 2026. No macro, syntax, notation, axiom, sorry.
-/
import Derived.Test.YtgefihgogfkjoaaChecked
import GoSem.Claim
import GoSem.ClaimJoined
import GoSem.ClaimMapViews
import Derived.JoinedTies
import Derived.KernelRfl
namespace Go.Proofs.Ytgefihgogfkjoaa
/- THE CELL 'sum', in the pinned program and in every row, IS THE sha256 OF THE DUMP (.gsa) THAT YtgefihgogfkjoaaProg.lean LOADS. Nothing in Lean hashes anything: it is a label: what it is worth is what the hold of that sum in a sandbox is worth. -/
noncomputable def Try.pinned : Pinned := { name := "ytgefihgogfkjoaa", sum := "57c50045a6b93f41f4e7690232d4adcffae04aeaaec4c978d0d6746c8a95ec34", checked := Try.checked }
namespace Rows
def none {H : Type} : Left H := { results := [], args := [] }

/-- 'sentinellaw7.SrpKeys': WHATEVER THE INPUT: true; the input reads as it did. -/
def srpKeysSpec : ChangeSpec := { name := "srpKeys", fn := fun _ => fun
  | [d1, d2, d3, d4, d5, d6] => { results := [.lit (.bool true)], args := [d1, d2, d3, d4, d5, d6] }
  | _ => none }
def srpKeysRow : OpenClaim := { program := "ytgefihgogfkjoaa", sum := "57c50045a6b93f41f4e7690232d4adcffae04aeaaec4c978d0d6746c8a95ec34", func := "sentinel/sentinellaw7.SrpKeys", spec := "srpKeys", unfollowed := true, recurses := true, apart := false }
def SrpKeysSaid : Prop := srpKeysRow.holds Try.pinned (OpenSpec.ofChange srpKeysSpec)

/-- ITS FALSE NEIGHBOUR: 'it returns false'. Refute it at one input. -/
def srpKeysWrong : ChangeSpec := { name := "srpKeys", fn := fun _ => fun
  | [d1, d2, d3, d4, d5, d6] => { results := [.lit (.bool false)], args := [d1, d2, d3, d4, d5, d6] }
  | _ => none }
def SrpKeysWrongFalsely : Prop := srpKeysRow.holds Try.pinned (OpenSpec.ofChange srpKeysWrong)

/-- 'sentinellaw7.SrpProofs': WHATEVER THE INPUT: true; the input reads as it did. -/
def srpProofsSpec : ChangeSpec := { name := "srpProofs", fn := fun _ => fun
  | [d1, d2, d3, d4, d5, d6, d7, d8, d9] => { results := [.lit (.bool true)], args := [d1, d2, d3, d4, d5, d6, d7, d8, d9] }
  | _ => none }
def srpProofsRow : OpenClaim := { program := "ytgefihgogfkjoaa", sum := "57c50045a6b93f41f4e7690232d4adcffae04aeaaec4c978d0d6746c8a95ec34", func := "sentinel/sentinellaw7.SrpProofs", spec := "srpProofs", unfollowed := true, recurses := true, apart := false }
def SrpProofsSaid : Prop := srpProofsRow.holds Try.pinned (OpenSpec.ofChange srpProofsSpec)

/-- ITS FALSE NEIGHBOUR: 'it returns false'. Refute it at one input. -/
def srpProofsWrong : ChangeSpec := { name := "srpProofs", fn := fun _ => fun
  | [d1, d2, d3, d4, d5, d6, d7, d8, d9] => { results := [.lit (.bool false)], args := [d1, d2, d3, d4, d5, d6, d7, d8, d9] }
  | _ => none }
def SrpProofsWrongFalsely : Prop := srpProofsRow.holds Try.pinned (OpenSpec.ofChange srpProofsWrong)

/-- 'sentinellaw7.SrpRefuses': WHATEVER THE INPUT: true; the input reads as it did. -/
def srpRefusesSpec : ChangeSpec := { name := "srpRefuses", fn := fun _ => fun
  | [d1, d2, d3, d4] => { results := [.lit (.bool true)], args := [d1, d2, d3, d4] }
  | _ => none }
def srpRefusesRow : OpenClaim := { program := "ytgefihgogfkjoaa", sum := "57c50045a6b93f41f4e7690232d4adcffae04aeaaec4c978d0d6746c8a95ec34", func := "sentinel/sentinellaw7.SrpRefuses", spec := "srpRefuses", unfollowed := true, recurses := true, apart := false }
def SrpRefusesSaid : Prop := srpRefusesRow.holds Try.pinned (OpenSpec.ofChange srpRefusesSpec)

/-- ITS FALSE NEIGHBOUR: 'it returns false'. Refute it at one input. -/
def srpRefusesWrong : ChangeSpec := { name := "srpRefuses", fn := fun _ => fun
  | [d1, d2, d3, d4] => { results := [.lit (.bool false)], args := [d1, d2, d3, d4] }
  | _ => none }
def SrpRefusesWrongFalsely : Prop := srpRefusesRow.holds Try.pinned (OpenSpec.ofChange srpRefusesWrong)

/-- 'sentinellaw7.SrpWrong': WHATEVER THE INPUT: true; the input reads as it did. -/
def srpWrongSpec : ChangeSpec := { name := "srpWrong", fn := fun _ => fun
  | [d1, d2, d3, d4, d5] => { results := [.lit (.bool true)], args := [d1, d2, d3, d4, d5] }
  | _ => none }
def srpWrongRow : OpenClaim := { program := "ytgefihgogfkjoaa", sum := "57c50045a6b93f41f4e7690232d4adcffae04aeaaec4c978d0d6746c8a95ec34", func := "sentinel/sentinellaw7.SrpWrong", spec := "srpWrong", unfollowed := true, recurses := true, apart := false }
def SrpWrongSaid : Prop := srpWrongRow.holds Try.pinned (OpenSpec.ofChange srpWrongSpec)

/-- ITS FALSE NEIGHBOUR: 'it returns false'. Refute it at one input. -/
def srpWrongWrong : ChangeSpec := { name := "srpWrong", fn := fun _ => fun
  | [d1, d2, d3, d4, d5] => { results := [.lit (.bool false)], args := [d1, d2, d3, d4, d5] }
  | _ => none }
def SrpWrongWrongFalsely : Prop := srpWrongRow.holds Try.pinned (OpenSpec.ofChange srpWrongWrong)

/-- 'sentinellaw7.SrpSecrets': WHATEVER THE INPUT: true; the input reads as it did. -/
def srpSecretsSpec : ChangeSpec := { name := "srpSecrets", fn := fun _ => fun
  | [d1, d2, d3, d4, d5] => { results := [.lit (.bool true)], args := [d1, d2, d3, d4, d5] }
  | _ => none }
def srpSecretsRow : OpenClaim := { program := "ytgefihgogfkjoaa", sum := "57c50045a6b93f41f4e7690232d4adcffae04aeaaec4c978d0d6746c8a95ec34", func := "sentinel/sentinellaw7.SrpSecrets", spec := "srpSecrets", unfollowed := true, recurses := true, apart := false }
def SrpSecretsSaid : Prop := srpSecretsRow.holds Try.pinned (OpenSpec.ofChange srpSecretsSpec)

/-- ITS FALSE NEIGHBOUR: 'it returns false'. Refute it at one input. -/
def srpSecretsWrong : ChangeSpec := { name := "srpSecrets", fn := fun _ => fun
  | [d1, d2, d3, d4, d5] => { results := [.lit (.bool false)], args := [d1, d2, d3, d4, d5] }
  | _ => none }
def SrpSecretsWrongFalsely : Prop := srpSecretsRow.holds Try.pinned (OpenSpec.ofChange srpSecretsWrong)

/-- 'sentinellaw7.SrpNames': WHATEVER THE INPUT: true; the input reads as it did. -/
def srpNamesSpec : ChangeSpec := { name := "srpNames", fn := fun _ => fun
  | [d1, d2, d3, d4, d5, d6] => { results := [.lit (.bool true)], args := [d1, d2, d3, d4, d5, d6] }
  | _ => none }
def srpNamesRow : OpenClaim := { program := "ytgefihgogfkjoaa", sum := "57c50045a6b93f41f4e7690232d4adcffae04aeaaec4c978d0d6746c8a95ec34", func := "sentinel/sentinellaw7.SrpNames", spec := "srpNames", unfollowed := true, recurses := true, apart := false }
def SrpNamesSaid : Prop := srpNamesRow.holds Try.pinned (OpenSpec.ofChange srpNamesSpec)

/-- ITS FALSE NEIGHBOUR: 'it returns false'. Refute it at one input. -/
def srpNamesWrong : ChangeSpec := { name := "srpNames", fn := fun _ => fun
  | [d1, d2, d3, d4, d5, d6] => { results := [.lit (.bool false)], args := [d1, d2, d3, d4, d5, d6] }
  | _ => none }
def SrpNamesWrongFalsely : Prop := srpNamesRow.holds Try.pinned (OpenSpec.ofChange srpNamesWrong)

/-- 'sentinellaw7.SrpRuns': WHATEVER THE INPUT: true; the input reads as it did. -/
def srpRunsSpec : ChangeSpec := { name := "srpRuns", fn := fun _ => fun
  | [d1, d2, d3, d4] => { results := [.lit (.bool true)], args := [d1, d2, d3, d4] }
  | _ => none }
def srpRunsRow : OpenClaim := { program := "ytgefihgogfkjoaa", sum := "57c50045a6b93f41f4e7690232d4adcffae04aeaaec4c978d0d6746c8a95ec34", func := "sentinel/sentinellaw7.SrpRuns", spec := "srpRuns", unfollowed := true, recurses := true, apart := false }
def SrpRunsSaid : Prop := srpRunsRow.holds Try.pinned (OpenSpec.ofChange srpRunsSpec)

/-- ITS FALSE NEIGHBOUR: 'it returns false'. Refute it at one input. -/
def srpRunsWrong : ChangeSpec := { name := "srpRuns", fn := fun _ => fun
  | [d1, d2, d3, d4] => { results := [.lit (.bool false)], args := [d1, d2, d3, d4] }
  | _ => none }
def SrpRunsWrongFalsely : Prop := srpRunsRow.holds Try.pinned (OpenSpec.ofChange srpRunsWrong)

/-- 'sentinellaw7.SrpOwn': WHATEVER THE INPUT: true; the input reads as it did. -/
def srpOwnSpec : ChangeSpec := { name := "srpOwn", fn := fun _ => fun
  | [d1, d2, d3, d4] => { results := [.lit (.bool true)], args := [d1, d2, d3, d4] }
  | _ => none }
def srpOwnRow : OpenClaim := { program := "ytgefihgogfkjoaa", sum := "57c50045a6b93f41f4e7690232d4adcffae04aeaaec4c978d0d6746c8a95ec34", func := "sentinel/sentinellaw7.SrpOwn", spec := "srpOwn", unfollowed := true, recurses := true, apart := false }
def SrpOwnSaid : Prop := srpOwnRow.holds Try.pinned (OpenSpec.ofChange srpOwnSpec)

/-- ITS FALSE NEIGHBOUR: 'it returns false'. Refute it at one input. -/
def srpOwnWrong : ChangeSpec := { name := "srpOwn", fn := fun _ => fun
  | [d1, d2, d3, d4] => { results := [.lit (.bool false)], args := [d1, d2, d3, d4] }
  | _ => none }
def SrpOwnWrongFalsely : Prop := srpOwnRow.holds Try.pinned (OpenSpec.ofChange srpOwnWrong)

/- THE SECOND FORM. 'bulk': how many values and letters a reading holds, each counted each time it is reached (what is shared counts as often as it is met; a slice's spare places count too). A statement '..UptoSaid' is the law's where the arguments, and the package variables that the reading takes, are together of bulk at most 1048576: NARROWER than '..Said'. Prove '..Said' where nothing that the law and all that it calls make is longer than what came in: it says more and counts as full. Else prove '..UptoSaid'. A law counts once. -/
mutual
def uptoBulk {H : Type} : DataW H → Nat
  | .lit (.string bytes) => bytes.length + 1
  | .lit _ => 1
  | .nil => 1
  | .ptr d => uptoBulk d + 1
  | .slice elems spare => uptoBulkAll elems + uptoBulkAll spare + 1
  | .agg parts => uptoBulkAll parts + 1
  | .iface _ d => uptoBulk d + 1
  | .map entries => uptoBulkEntries entries + 1
  | .held _ => 1
def uptoBulkAll {H : Type} : List (DataW H) → Nat
  | [] => 0
  | d :: r => uptoBulk d + uptoBulkAll r
def uptoBulkEntries {H : Type} : List (Lit × DataW H) → Nat
  | [] => 0
  | x :: r => uptoBulkEntry x + uptoBulkEntries r
def uptoBulkEntry {H : Type} : Lit × DataW H → Nat
  | (.string bytes, d) => bytes.length + uptoBulk d + 1
  | (_, d) => uptoBulk d + 1
 end
def uptoSmall : (H : Type) → List (DataW H) → Bool := fun _ ds => decide (uptoBulkAll ds ≤ 1048576)
def OpenSpec.upto (s : _root_.Go.ChangeSpec) : _root_.Go.OpenSpec := { _root_.Go.OpenSpec.ofChange s with cond := some uptoSmall }

/-- 'sentinellaw7.SrpKeys', WHERE WHAT IT READS IS OF BULK AT MOST 1048576: true; the input reads as it did. -/
def srpKeysUptoRow : OpenClaim := { program := "ytgefihgogfkjoaa", sum := "57c50045a6b93f41f4e7690232d4adcffae04aeaaec4c978d0d6746c8a95ec34", func := "sentinel/sentinellaw7.SrpKeys", spec := "srpKeys", unfollowed := true, recurses := true, apart := false, narrowed := true }
def SrpKeysUptoSaid : Prop := srpKeysUptoRow.holds Try.pinned (OpenSpec.upto srpKeysSpec)

/-- 'sentinellaw7.SrpProofs', WHERE WHAT IT READS IS OF BULK AT MOST 1048576: true; the input reads as it did. -/
def srpProofsUptoRow : OpenClaim := { program := "ytgefihgogfkjoaa", sum := "57c50045a6b93f41f4e7690232d4adcffae04aeaaec4c978d0d6746c8a95ec34", func := "sentinel/sentinellaw7.SrpProofs", spec := "srpProofs", unfollowed := true, recurses := true, apart := false, narrowed := true }
def SrpProofsUptoSaid : Prop := srpProofsUptoRow.holds Try.pinned (OpenSpec.upto srpProofsSpec)

/-- 'sentinellaw7.SrpRefuses', WHERE WHAT IT READS IS OF BULK AT MOST 1048576: true; the input reads as it did. -/
def srpRefusesUptoRow : OpenClaim := { program := "ytgefihgogfkjoaa", sum := "57c50045a6b93f41f4e7690232d4adcffae04aeaaec4c978d0d6746c8a95ec34", func := "sentinel/sentinellaw7.SrpRefuses", spec := "srpRefuses", unfollowed := true, recurses := true, apart := false, narrowed := true }
def SrpRefusesUptoSaid : Prop := srpRefusesUptoRow.holds Try.pinned (OpenSpec.upto srpRefusesSpec)

/-- 'sentinellaw7.SrpWrong', WHERE WHAT IT READS IS OF BULK AT MOST 1048576: true; the input reads as it did. -/
def srpWrongUptoRow : OpenClaim := { program := "ytgefihgogfkjoaa", sum := "57c50045a6b93f41f4e7690232d4adcffae04aeaaec4c978d0d6746c8a95ec34", func := "sentinel/sentinellaw7.SrpWrong", spec := "srpWrong", unfollowed := true, recurses := true, apart := false, narrowed := true }
def SrpWrongUptoSaid : Prop := srpWrongUptoRow.holds Try.pinned (OpenSpec.upto srpWrongSpec)

/-- 'sentinellaw7.SrpSecrets', WHERE WHAT IT READS IS OF BULK AT MOST 1048576: true; the input reads as it did. -/
def srpSecretsUptoRow : OpenClaim := { program := "ytgefihgogfkjoaa", sum := "57c50045a6b93f41f4e7690232d4adcffae04aeaaec4c978d0d6746c8a95ec34", func := "sentinel/sentinellaw7.SrpSecrets", spec := "srpSecrets", unfollowed := true, recurses := true, apart := false, narrowed := true }
def SrpSecretsUptoSaid : Prop := srpSecretsUptoRow.holds Try.pinned (OpenSpec.upto srpSecretsSpec)

/-- 'sentinellaw7.SrpNames', WHERE WHAT IT READS IS OF BULK AT MOST 1048576: true; the input reads as it did. -/
def srpNamesUptoRow : OpenClaim := { program := "ytgefihgogfkjoaa", sum := "57c50045a6b93f41f4e7690232d4adcffae04aeaaec4c978d0d6746c8a95ec34", func := "sentinel/sentinellaw7.SrpNames", spec := "srpNames", unfollowed := true, recurses := true, apart := false, narrowed := true }
def SrpNamesUptoSaid : Prop := srpNamesUptoRow.holds Try.pinned (OpenSpec.upto srpNamesSpec)

/-- 'sentinellaw7.SrpRuns', WHERE WHAT IT READS IS OF BULK AT MOST 1048576: true; the input reads as it did. -/
def srpRunsUptoRow : OpenClaim := { program := "ytgefihgogfkjoaa", sum := "57c50045a6b93f41f4e7690232d4adcffae04aeaaec4c978d0d6746c8a95ec34", func := "sentinel/sentinellaw7.SrpRuns", spec := "srpRuns", unfollowed := true, recurses := true, apart := false, narrowed := true }
def SrpRunsUptoSaid : Prop := srpRunsUptoRow.holds Try.pinned (OpenSpec.upto srpRunsSpec)

/-- 'sentinellaw7.SrpOwn', WHERE WHAT IT READS IS OF BULK AT MOST 1048576: true; the input reads as it did. -/
def srpOwnUptoRow : OpenClaim := { program := "ytgefihgogfkjoaa", sum := "57c50045a6b93f41f4e7690232d4adcffae04aeaaec4c978d0d6746c8a95ec34", func := "sentinel/sentinellaw7.SrpOwn", spec := "srpOwn", unfollowed := true, recurses := true, apart := false, narrowed := true }
def SrpOwnUptoSaid : Prop := srpOwnUptoRow.holds Try.pinned (OpenSpec.upto srpOwnSpec)

end Rows
end Go.Proofs.Ytgefihgogfkjoaa
