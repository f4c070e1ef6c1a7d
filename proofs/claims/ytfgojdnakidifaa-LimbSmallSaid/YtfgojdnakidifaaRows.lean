/-
  No cell of these rows narrows 'for every input' (looked for: loops, veiled, ifaces, maps, wideKeys, modest, calm, conditions, laid).
  DERIVED. THE GIVEN ROWS OF THIS SEAT. 12 by the template 'for every input the law returns true; each argument reads behind the call as it read before'; 0 by the template 'total and deterministic' (their statements: YtfgojdnakidifaaTotals.lean).
  GIVEN WITH THE SEED: the statements are not yours to turn. If you find one false, say at which input.
  Laid BY PROGRAM, IN A SANDBOX (cutbox-rows.mjs): the forced cells as the released guide's own fill.sh prints them over the translation 007b2e9d2426b3ab… (all of the seat's roots in one cut). By AI agents, Wed Nov 11 2026. No macro, syntax, notation, axiom, sorry.
-/
import Derived.Test.YtfgojdnakidifaaChecked
import GoSem.Claim
import GoSem.ClaimJoined
import GoSem.ClaimMapViews
import Derived.JoinedTies
import Derived.KernelRfl
namespace Go.Proofs.Ytfgojdnakidifaa
/- THE CELL 'sum', in the pinned program and in every row, IS THE sha256 OF THE DUMP (.gsa) THAT YtfgojdnakidifaaProg.lean LOADS. Nothing in Lean hashes anything: it is a label: what it is worth is what the hold of that sum in a sandbox is worth. -/
noncomputable def Try.pinned : Pinned := { name := "ytfgojdnakidifaa", sum := "007b2e9d2426b3ab88e33392a525ca7e985d61ae766c3eef06bce5a3c9e04cb6", checked := Try.checked }
namespace Rows
def none {H : Type} : Left H := { results := [], args := [] }

/-- 'sentinellaw1.LimbBack': WHATEVER THE INPUT: true; the input reads as it did. -/
def limbBackSpec : ChangeSpec := { name := "limbBack", fn := fun _ => fun
  | [d1, d2, d3] => { results := [.lit (.bool true)], args := [d1, d2, d3] }
  | _ => none }
def limbBackRow : OpenClaim := { program := "ytfgojdnakidifaa", sum := "007b2e9d2426b3ab88e33392a525ca7e985d61ae766c3eef06bce5a3c9e04cb6", func := "sentinel/sentinellaw1.LimbBack", spec := "limbBack", apart := false }
def LimbBackSaid : Prop := limbBackRow.holds Try.pinned (OpenSpec.ofChange limbBackSpec)

/-- ITS FALSE NEIGHBOUR: 'it returns false'. Refute it at one input. -/
def limbBackWrong : ChangeSpec := { name := "limbBack", fn := fun _ => fun
  | [d1, d2, d3] => { results := [.lit (.bool false)], args := [d1, d2, d3] }
  | _ => none }
def LimbBackWrongFalsely : Prop := limbBackRow.holds Try.pinned (OpenSpec.ofChange limbBackWrong)

/-- 'sentinellaw1.LimbBytes': WHATEVER THE INPUT: true; the input reads as it did. -/
def limbBytesSpec : ChangeSpec := { name := "limbBytes", fn := fun _ => fun
  | [d1, d2, d3] => { results := [.lit (.bool true)], args := [d1, d2, d3] }
  | _ => none }
def limbBytesRow : OpenClaim := { program := "ytfgojdnakidifaa", sum := "007b2e9d2426b3ab88e33392a525ca7e985d61ae766c3eef06bce5a3c9e04cb6", func := "sentinel/sentinellaw1.LimbBytes", spec := "limbBytes", apart := false }
def LimbBytesSaid : Prop := limbBytesRow.holds Try.pinned (OpenSpec.ofChange limbBytesSpec)

/-- ITS FALSE NEIGHBOUR: 'it returns false'. Refute it at one input. -/
def limbBytesWrong : ChangeSpec := { name := "limbBytes", fn := fun _ => fun
  | [d1, d2, d3] => { results := [.lit (.bool false)], args := [d1, d2, d3] }
  | _ => none }
def LimbBytesWrongFalsely : Prop := limbBytesRow.holds Try.pinned (OpenSpec.ofChange limbBytesWrong)

/-- 'sentinellaw1.LimbShift': WHATEVER THE INPUT: true; the input reads as it did. -/
def limbShiftSpec : ChangeSpec := { name := "limbShift", fn := fun _ => fun
  | [d1, d2, d3] => { results := [.lit (.bool true)], args := [d1, d2, d3] }
  | _ => none }
def limbShiftRow : OpenClaim := { program := "ytfgojdnakidifaa", sum := "007b2e9d2426b3ab88e33392a525ca7e985d61ae766c3eef06bce5a3c9e04cb6", func := "sentinel/sentinellaw1.LimbShift", spec := "limbShift", apart := false }
def LimbShiftSaid : Prop := limbShiftRow.holds Try.pinned (OpenSpec.ofChange limbShiftSpec)

/-- ITS FALSE NEIGHBOUR: 'it returns false'. Refute it at one input. -/
def limbShiftWrong : ChangeSpec := { name := "limbShift", fn := fun _ => fun
  | [d1, d2, d3] => { results := [.lit (.bool false)], args := [d1, d2, d3] }
  | _ => none }
def LimbShiftWrongFalsely : Prop := limbShiftRow.holds Try.pinned (OpenSpec.ofChange limbShiftWrong)

/-- 'sentinellaw1.LimbCarry': WHATEVER THE INPUT: true; the input reads as it did. -/
def limbCarrySpec : ChangeSpec := { name := "limbCarry", fn := fun _ => fun
  | [d1, d2, d3, d4, d5, d6] => { results := [.lit (.bool true)], args := [d1, d2, d3, d4, d5, d6] }
  | _ => none }
def limbCarryRow : OpenClaim := { program := "ytfgojdnakidifaa", sum := "007b2e9d2426b3ab88e33392a525ca7e985d61ae766c3eef06bce5a3c9e04cb6", func := "sentinel/sentinellaw1.LimbCarry", spec := "limbCarry", apart := false }
def LimbCarrySaid : Prop := limbCarryRow.holds Try.pinned (OpenSpec.ofChange limbCarrySpec)

/-- ITS FALSE NEIGHBOUR: 'it returns false'. Refute it at one input. -/
def limbCarryWrong : ChangeSpec := { name := "limbCarry", fn := fun _ => fun
  | [d1, d2, d3, d4, d5, d6] => { results := [.lit (.bool false)], args := [d1, d2, d3, d4, d5, d6] }
  | _ => none }
def LimbCarryWrongFalsely : Prop := limbCarryRow.holds Try.pinned (OpenSpec.ofChange limbCarryWrong)

/-- 'sentinellaw1.LimbPicks': WHATEVER THE INPUT: true; the input reads as it did. -/
def limbPicksSpec : ChangeSpec := { name := "limbPicks", fn := fun _ => fun
  | [d1, d2, d3, d4, d5] => { results := [.lit (.bool true)], args := [d1, d2, d3, d4, d5] }
  | _ => none }
def limbPicksRow : OpenClaim := { program := "ytfgojdnakidifaa", sum := "007b2e9d2426b3ab88e33392a525ca7e985d61ae766c3eef06bce5a3c9e04cb6", func := "sentinel/sentinellaw1.LimbPicks", spec := "limbPicks", apart := false }
def LimbPicksSaid : Prop := limbPicksRow.holds Try.pinned (OpenSpec.ofChange limbPicksSpec)

/-- ITS FALSE NEIGHBOUR: 'it returns false'. Refute it at one input. -/
def limbPicksWrong : ChangeSpec := { name := "limbPicks", fn := fun _ => fun
  | [d1, d2, d3, d4, d5] => { results := [.lit (.bool false)], args := [d1, d2, d3, d4, d5] }
  | _ => none }
def LimbPicksWrongFalsely : Prop := limbPicksRow.holds Try.pinned (OpenSpec.ofChange limbPicksWrong)

/-- 'sentinellaw1.LimbOrder': WHATEVER THE INPUT: true; the input reads as it did. -/
def limbOrderSpec : ChangeSpec := { name := "limbOrder", fn := fun _ => fun
  | [d1, d2, d3, d4] => { results := [.lit (.bool true)], args := [d1, d2, d3, d4] }
  | _ => none }
def limbOrderRow : OpenClaim := { program := "ytfgojdnakidifaa", sum := "007b2e9d2426b3ab88e33392a525ca7e985d61ae766c3eef06bce5a3c9e04cb6", func := "sentinel/sentinellaw1.LimbOrder", spec := "limbOrder", apart := false }
def LimbOrderSaid : Prop := limbOrderRow.holds Try.pinned (OpenSpec.ofChange limbOrderSpec)

/-- ITS FALSE NEIGHBOUR: 'it returns false'. Refute it at one input. -/
def limbOrderWrong : ChangeSpec := { name := "limbOrder", fn := fun _ => fun
  | [d1, d2, d3, d4] => { results := [.lit (.bool false)], args := [d1, d2, d3, d4] }
  | _ => none }
def LimbOrderWrongFalsely : Prop := limbOrderRow.holds Try.pinned (OpenSpec.ofChange limbOrderWrong)

/-- 'sentinellaw1.LimbLaws': WHATEVER THE INPUT: true; the input reads as it did. -/
def limbLawsSpec : ChangeSpec := { name := "limbLaws", fn := fun _ => fun
  | [d1, d2, d3, d4, d5, d6] => { results := [.lit (.bool true)], args := [d1, d2, d3, d4, d5, d6] }
  | _ => none }
def limbLawsRow : OpenClaim := { program := "ytfgojdnakidifaa", sum := "007b2e9d2426b3ab88e33392a525ca7e985d61ae766c3eef06bce5a3c9e04cb6", func := "sentinel/sentinellaw1.LimbLaws", spec := "limbLaws", apart := false }
def LimbLawsSaid : Prop := limbLawsRow.holds Try.pinned (OpenSpec.ofChange limbLawsSpec)

/-- ITS FALSE NEIGHBOUR: 'it returns false'. Refute it at one input. -/
def limbLawsWrong : ChangeSpec := { name := "limbLaws", fn := fun _ => fun
  | [d1, d2, d3, d4, d5, d6] => { results := [.lit (.bool false)], args := [d1, d2, d3, d4, d5, d6] }
  | _ => none }
def LimbLawsWrongFalsely : Prop := limbLawsRow.holds Try.pinned (OpenSpec.ofChange limbLawsWrong)

/-- 'sentinellaw1.LimbSmall': WHATEVER THE INPUT: true; the input reads as it did. -/
def limbSmallSpec : ChangeSpec := { name := "limbSmall", fn := fun _ => fun
  | [d1, d2, d3] => { results := [.lit (.bool true)], args := [d1, d2, d3] }
  | _ => none }
def limbSmallRow : OpenClaim := { program := "ytfgojdnakidifaa", sum := "007b2e9d2426b3ab88e33392a525ca7e985d61ae766c3eef06bce5a3c9e04cb6", func := "sentinel/sentinellaw1.LimbSmall", spec := "limbSmall", apart := false }
def LimbSmallSaid : Prop := limbSmallRow.holds Try.pinned (OpenSpec.ofChange limbSmallSpec)

/-- ITS FALSE NEIGHBOUR: 'it returns false'. Refute it at one input. -/
def limbSmallWrong : ChangeSpec := { name := "limbSmall", fn := fun _ => fun
  | [d1, d2, d3] => { results := [.lit (.bool false)], args := [d1, d2, d3] }
  | _ => none }
def LimbSmallWrongFalsely : Prop := limbSmallRow.holds Try.pinned (OpenSpec.ofChange limbSmallWrong)

/-- 'sentinellaw1.LimbKnown': WHATEVER THE INPUT: true; the input reads as it did. -/
def limbKnownSpec : ChangeSpec := { name := "limbKnown", fn := fun _ => fun
  | [d] => { results := [.lit (.bool true)], args := [d] }
  | _ => none }
def limbKnownRow : OpenClaim := { program := "ytfgojdnakidifaa", sum := "007b2e9d2426b3ab88e33392a525ca7e985d61ae766c3eef06bce5a3c9e04cb6", func := "sentinel/sentinellaw1.LimbKnown", spec := "limbKnown", apart := false }
def LimbKnownSaid : Prop := limbKnownRow.holds Try.pinned (OpenSpec.ofChange limbKnownSpec)

/-- ITS FALSE NEIGHBOUR: 'it returns false'. Refute it at one input. -/
def limbKnownWrong : ChangeSpec := { name := "limbKnown", fn := fun _ => fun
  | [d] => { results := [.lit (.bool false)], args := [d] }
  | _ => none }
def LimbKnownWrongFalsely : Prop := limbKnownRow.holds Try.pinned (OpenSpec.ofChange limbKnownWrong)

/-- 'sentinellaw1.LimbDivides': WHATEVER THE INPUT: true; the input reads as it did. -/
def limbDividesSpec : ChangeSpec := { name := "limbDivides", fn := fun _ => fun
  | [d1, d2, d3, d4, d5, d6] => { results := [.lit (.bool true)], args := [d1, d2, d3, d4, d5, d6] }
  | _ => none }
def limbDividesRow : OpenClaim := { program := "ytfgojdnakidifaa", sum := "007b2e9d2426b3ab88e33392a525ca7e985d61ae766c3eef06bce5a3c9e04cb6", func := "sentinel/sentinellaw1.LimbDivides", spec := "limbDivides", apart := false }
def LimbDividesSaid : Prop := limbDividesRow.holds Try.pinned (OpenSpec.ofChange limbDividesSpec)

/-- ITS FALSE NEIGHBOUR: 'it returns false'. Refute it at one input. -/
def limbDividesWrong : ChangeSpec := { name := "limbDivides", fn := fun _ => fun
  | [d1, d2, d3, d4, d5, d6] => { results := [.lit (.bool false)], args := [d1, d2, d3, d4, d5, d6] }
  | _ => none }
def LimbDividesWrongFalsely : Prop := limbDividesRow.holds Try.pinned (OpenSpec.ofChange limbDividesWrong)

/-- 'sentinellaw1.LimbAll': WHATEVER THE INPUT: true; the input reads as it did. -/
def limbAllSpec : ChangeSpec := { name := "limbAll", fn := fun _ => fun
  | [d1, d2, d3, d4, d5, d6, d7] => { results := [.lit (.bool true)], args := [d1, d2, d3, d4, d5, d6, d7] }
  | _ => none }
def limbAllRow : OpenClaim := { program := "ytfgojdnakidifaa", sum := "007b2e9d2426b3ab88e33392a525ca7e985d61ae766c3eef06bce5a3c9e04cb6", func := "sentinel/sentinellaw1.LimbAll", spec := "limbAll", apart := false }
def LimbAllSaid : Prop := limbAllRow.holds Try.pinned (OpenSpec.ofChange limbAllSpec)

/-- ITS FALSE NEIGHBOUR: 'it returns false'. Refute it at one input. -/
def limbAllWrong : ChangeSpec := { name := "limbAll", fn := fun _ => fun
  | [d1, d2, d3, d4, d5, d6, d7] => { results := [.lit (.bool false)], args := [d1, d2, d3, d4, d5, d6, d7] }
  | _ => none }
def LimbAllWrongFalsely : Prop := limbAllRow.holds Try.pinned (OpenSpec.ofChange limbAllWrong)

/-- 'sentinellaw1.LimbRests': WHATEVER THE INPUT: true; the input reads as it did. -/
def limbRestsSpec : ChangeSpec := { name := "limbRests", fn := fun _ => fun
  | [d1, d2, d3, d4, d5, d6, d7] => { results := [.lit (.bool true)], args := [d1, d2, d3, d4, d5, d6, d7] }
  | _ => none }
def limbRestsRow : OpenClaim := { program := "ytfgojdnakidifaa", sum := "007b2e9d2426b3ab88e33392a525ca7e985d61ae766c3eef06bce5a3c9e04cb6", func := "sentinel/sentinellaw1.LimbRests", spec := "limbRests", apart := false }
def LimbRestsSaid : Prop := limbRestsRow.holds Try.pinned (OpenSpec.ofChange limbRestsSpec)

/-- ITS FALSE NEIGHBOUR: 'it returns false'. Refute it at one input. -/
def limbRestsWrong : ChangeSpec := { name := "limbRests", fn := fun _ => fun
  | [d1, d2, d3, d4, d5, d6, d7] => { results := [.lit (.bool false)], args := [d1, d2, d3, d4, d5, d6, d7] }
  | _ => none }
def LimbRestsWrongFalsely : Prop := limbRestsRow.holds Try.pinned (OpenSpec.ofChange limbRestsWrong)

/- THE SECOND FORM. 'bulk': how many values and letters a reading holds, each counted each time it is reached (what is shared counts as often as it is met; a slice's spare places count too). A statement '..UptoSaid' is the law's where the arguments, and the package variables that the reading takes, are together of bulk at most 1048576: NARROWER than '..Said'. Prove '..Said' where nothing that the law and all that it calls make is longer than what came in: it says more and counts as full. Else prove '..UptoSaid'. A law counts once. -/
mutual
def uptoBulk {H : Type} : DataW H → Nat
  | .lit (.string bytes) => bytes.length + 1
  | .lit _ => 1
  | .nil => 1
  | .ptr d => uptoBulk d + 1
  | .slice elems spare => uptoBulkAll elems + uptoBulkAll spare + 1
  | .agg parts => uptoBulkAll parts + 1
  | .iface _ d => uptoBulk d + 1
  | .map entries => uptoBulkEntries entries + 1
  | .held _ => 1
def uptoBulkAll {H : Type} : List (DataW H) → Nat
  | [] => 0
  | d :: r => uptoBulk d + uptoBulkAll r
def uptoBulkEntries {H : Type} : List (Lit × DataW H) → Nat
  | [] => 0
  | x :: r => uptoBulkEntry x + uptoBulkEntries r
def uptoBulkEntry {H : Type} : Lit × DataW H → Nat
  | (.string bytes, d) => bytes.length + uptoBulk d + 1
  | (_, d) => uptoBulk d + 1
 end
def uptoSmall : (H : Type) → List (DataW H) → Bool := fun _ ds => decide (uptoBulkAll ds ≤ 1048576)
def OpenSpec.upto (s : _root_.Go.ChangeSpec) : _root_.Go.OpenSpec := { _root_.Go.OpenSpec.ofChange s with cond := some uptoSmall }

/-- 'sentinellaw1.LimbBack', WHERE WHAT IT READS IS OF BULK AT MOST 1048576: true; the input reads as it did. -/
def limbBackUptoRow : OpenClaim := { program := "ytfgojdnakidifaa", sum := "007b2e9d2426b3ab88e33392a525ca7e985d61ae766c3eef06bce5a3c9e04cb6", func := "sentinel/sentinellaw1.LimbBack", spec := "limbBack", apart := false, narrowed := true }
def LimbBackUptoSaid : Prop := limbBackUptoRow.holds Try.pinned (OpenSpec.upto limbBackSpec)

/-- 'sentinellaw1.LimbBytes', WHERE WHAT IT READS IS OF BULK AT MOST 1048576: true; the input reads as it did. -/
def limbBytesUptoRow : OpenClaim := { program := "ytfgojdnakidifaa", sum := "007b2e9d2426b3ab88e33392a525ca7e985d61ae766c3eef06bce5a3c9e04cb6", func := "sentinel/sentinellaw1.LimbBytes", spec := "limbBytes", apart := false, narrowed := true }
def LimbBytesUptoSaid : Prop := limbBytesUptoRow.holds Try.pinned (OpenSpec.upto limbBytesSpec)

/-- 'sentinellaw1.LimbShift', WHERE WHAT IT READS IS OF BULK AT MOST 1048576: true; the input reads as it did. -/
def limbShiftUptoRow : OpenClaim := { program := "ytfgojdnakidifaa", sum := "007b2e9d2426b3ab88e33392a525ca7e985d61ae766c3eef06bce5a3c9e04cb6", func := "sentinel/sentinellaw1.LimbShift", spec := "limbShift", apart := false, narrowed := true }
def LimbShiftUptoSaid : Prop := limbShiftUptoRow.holds Try.pinned (OpenSpec.upto limbShiftSpec)

/-- 'sentinellaw1.LimbCarry', WHERE WHAT IT READS IS OF BULK AT MOST 1048576: true; the input reads as it did. -/
def limbCarryUptoRow : OpenClaim := { program := "ytfgojdnakidifaa", sum := "007b2e9d2426b3ab88e33392a525ca7e985d61ae766c3eef06bce5a3c9e04cb6", func := "sentinel/sentinellaw1.LimbCarry", spec := "limbCarry", apart := false, narrowed := true }
def LimbCarryUptoSaid : Prop := limbCarryUptoRow.holds Try.pinned (OpenSpec.upto limbCarrySpec)

/-- 'sentinellaw1.LimbPicks', WHERE WHAT IT READS IS OF BULK AT MOST 1048576: true; the input reads as it did. -/
def limbPicksUptoRow : OpenClaim := { program := "ytfgojdnakidifaa", sum := "007b2e9d2426b3ab88e33392a525ca7e985d61ae766c3eef06bce5a3c9e04cb6", func := "sentinel/sentinellaw1.LimbPicks", spec := "limbPicks", apart := false, narrowed := true }
def LimbPicksUptoSaid : Prop := limbPicksUptoRow.holds Try.pinned (OpenSpec.upto limbPicksSpec)

/-- 'sentinellaw1.LimbOrder', WHERE WHAT IT READS IS OF BULK AT MOST 1048576: true; the input reads as it did. -/
def limbOrderUptoRow : OpenClaim := { program := "ytfgojdnakidifaa", sum := "007b2e9d2426b3ab88e33392a525ca7e985d61ae766c3eef06bce5a3c9e04cb6", func := "sentinel/sentinellaw1.LimbOrder", spec := "limbOrder", apart := false, narrowed := true }
def LimbOrderUptoSaid : Prop := limbOrderUptoRow.holds Try.pinned (OpenSpec.upto limbOrderSpec)

/-- 'sentinellaw1.LimbLaws', WHERE WHAT IT READS IS OF BULK AT MOST 1048576: true; the input reads as it did. -/
def limbLawsUptoRow : OpenClaim := { program := "ytfgojdnakidifaa", sum := "007b2e9d2426b3ab88e33392a525ca7e985d61ae766c3eef06bce5a3c9e04cb6", func := "sentinel/sentinellaw1.LimbLaws", spec := "limbLaws", apart := false, narrowed := true }
def LimbLawsUptoSaid : Prop := limbLawsUptoRow.holds Try.pinned (OpenSpec.upto limbLawsSpec)

/-- 'sentinellaw1.LimbSmall', WHERE WHAT IT READS IS OF BULK AT MOST 1048576: true; the input reads as it did. -/
def limbSmallUptoRow : OpenClaim := { program := "ytfgojdnakidifaa", sum := "007b2e9d2426b3ab88e33392a525ca7e985d61ae766c3eef06bce5a3c9e04cb6", func := "sentinel/sentinellaw1.LimbSmall", spec := "limbSmall", apart := false, narrowed := true }
def LimbSmallUptoSaid : Prop := limbSmallUptoRow.holds Try.pinned (OpenSpec.upto limbSmallSpec)

/-- 'sentinellaw1.LimbKnown', WHERE WHAT IT READS IS OF BULK AT MOST 1048576: true; the input reads as it did. -/
def limbKnownUptoRow : OpenClaim := { program := "ytfgojdnakidifaa", sum := "007b2e9d2426b3ab88e33392a525ca7e985d61ae766c3eef06bce5a3c9e04cb6", func := "sentinel/sentinellaw1.LimbKnown", spec := "limbKnown", apart := false, narrowed := true }
def LimbKnownUptoSaid : Prop := limbKnownUptoRow.holds Try.pinned (OpenSpec.upto limbKnownSpec)

/-- 'sentinellaw1.LimbDivides', WHERE WHAT IT READS IS OF BULK AT MOST 1048576: true; the input reads as it did. -/
def limbDividesUptoRow : OpenClaim := { program := "ytfgojdnakidifaa", sum := "007b2e9d2426b3ab88e33392a525ca7e985d61ae766c3eef06bce5a3c9e04cb6", func := "sentinel/sentinellaw1.LimbDivides", spec := "limbDivides", apart := false, narrowed := true }
def LimbDividesUptoSaid : Prop := limbDividesUptoRow.holds Try.pinned (OpenSpec.upto limbDividesSpec)

/-- 'sentinellaw1.LimbAll', WHERE WHAT IT READS IS OF BULK AT MOST 1048576: true; the input reads as it did. -/
def limbAllUptoRow : OpenClaim := { program := "ytfgojdnakidifaa", sum := "007b2e9d2426b3ab88e33392a525ca7e985d61ae766c3eef06bce5a3c9e04cb6", func := "sentinel/sentinellaw1.LimbAll", spec := "limbAll", apart := false, narrowed := true }
def LimbAllUptoSaid : Prop := limbAllUptoRow.holds Try.pinned (OpenSpec.upto limbAllSpec)

/-- 'sentinellaw1.LimbRests', WHERE WHAT IT READS IS OF BULK AT MOST 1048576: true; the input reads as it did. -/
def limbRestsUptoRow : OpenClaim := { program := "ytfgojdnakidifaa", sum := "007b2e9d2426b3ab88e33392a525ca7e985d61ae766c3eef06bce5a3c9e04cb6", func := "sentinel/sentinellaw1.LimbRests", spec := "limbRests", apart := false, narrowed := true }
def LimbRestsUptoSaid : Prop := limbRestsUptoRow.holds Try.pinned (OpenSpec.upto limbRestsSpec)

end Rows
end Go.Proofs.Ytfgojdnakidifaa
