/-
  No cell of these rows narrows 'for every input' (looked for: loops, veiled, ifaces, maps, wideKeys, modest, calm, conditions, laid).
  DERIVED. THE GIVEN ROWS OF THIS SEAT. 9 by the template 'for every input the law returns true; each argument reads behind the call as it read before'; 0 by the template 'total and deterministic' (their statements: YtlpeloenigdfdaaTotals.lean).
  GIVEN WITH THE SEED: the statements are not yours to turn. If you find one false, say at which input.
  Laid BY PROGRAM, IN A SANDBOX (cutbox-rows.mjs): the forced cells as the released guide's own fill.sh prints them over the translation f6ffee036fe43be1… (all of the seat's roots in one cut). By AI agents, Wed Nov 11 2026. No macro, syntax, notation, axiom, sorry.
-/
import Derived.Test.YtlpeloenigdfdaaChecked
import GoSem.Claim
import GoSem.ClaimJoined
import GoSem.ClaimMapViews
import Derived.JoinedTies
import Derived.KernelRfl
namespace Go.Proofs.Ytlpeloenigdfdaa
/- THE CELL 'sum', in the pinned program and in every row, IS THE sha256 OF THE DUMP (.gsa) THAT YtlpeloenigdfdaaProg.lean LOADS. Nothing in Lean hashes anything: it is a label: what it is worth is what the hold of that sum in a sandbox is worth. -/
noncomputable def Try.pinned : Pinned := { name := "ytlpeloenigdfdaa", sum := "f6ffee036fe43be11965d022631d71c2cf7ddbf33dd62e6c060a2eb329908523", checked := Try.checked }
namespace Rows
def none {H : Type} : Left H := { results := [], args := [] }

/-- 'sentinellaw2.MontMakes': WHATEVER THE INPUT: true; the input reads as it did. -/
def montMakesSpec : ChangeSpec := { name := "montMakes", fn := fun _ => fun
  | [d1, d2] => { results := [.lit (.bool true)], args := [d1, d2] }
  | _ => none }
def montMakesRow : OpenClaim := { program := "ytlpeloenigdfdaa", sum := "f6ffee036fe43be11965d022631d71c2cf7ddbf33dd62e6c060a2eb329908523", func := "sentinel/sentinellaw2.MontMakes", spec := "montMakes", apart := false }
def MontMakesSaid : Prop := montMakesRow.holds Try.pinned (OpenSpec.ofChange montMakesSpec)

/-- ITS FALSE NEIGHBOUR: 'it returns false'. Refute it at one input. -/
def montMakesWrong : ChangeSpec := { name := "montMakes", fn := fun _ => fun
  | [d1, d2] => { results := [.lit (.bool false)], args := [d1, d2] }
  | _ => none }
def MontMakesWrongFalsely : Prop := montMakesRow.holds Try.pinned (OpenSpec.ofChange montMakesWrong)

/-- 'sentinellaw2.MontMuls': WHATEVER THE INPUT: true; the input reads as it did. -/
def montMulsSpec : ChangeSpec := { name := "montMuls", fn := fun _ => fun
  | [d1, d2, d3, d4, d5, d6] => { results := [.lit (.bool true)], args := [d1, d2, d3, d4, d5, d6] }
  | _ => none }
def montMulsRow : OpenClaim := { program := "ytlpeloenigdfdaa", sum := "f6ffee036fe43be11965d022631d71c2cf7ddbf33dd62e6c060a2eb329908523", func := "sentinel/sentinellaw2.MontMuls", spec := "montMuls", apart := false }
def MontMulsSaid : Prop := montMulsRow.holds Try.pinned (OpenSpec.ofChange montMulsSpec)

/-- ITS FALSE NEIGHBOUR: 'it returns false'. Refute it at one input. -/
def montMulsWrong : ChangeSpec := { name := "montMuls", fn := fun _ => fun
  | [d1, d2, d3, d4, d5, d6] => { results := [.lit (.bool false)], args := [d1, d2, d3, d4, d5, d6] }
  | _ => none }
def MontMulsWrongFalsely : Prop := montMulsRow.holds Try.pinned (OpenSpec.ofChange montMulsWrong)

/-- 'sentinellaw2.MontPowers': WHATEVER THE INPUT: true; the input reads as it did. -/
def montPowersSpec : ChangeSpec := { name := "montPowers", fn := fun _ => fun
  | [d1, d2, d3, d4, d5, d6, d7] => { results := [.lit (.bool true)], args := [d1, d2, d3, d4, d5, d6, d7] }
  | _ => none }
def montPowersRow : OpenClaim := { program := "ytlpeloenigdfdaa", sum := "f6ffee036fe43be11965d022631d71c2cf7ddbf33dd62e6c060a2eb329908523", func := "sentinel/sentinellaw2.MontPowers", spec := "montPowers", apart := false }
def MontPowersSaid : Prop := montPowersRow.holds Try.pinned (OpenSpec.ofChange montPowersSpec)

/-- ITS FALSE NEIGHBOUR: 'it returns false'. Refute it at one input. -/
def montPowersWrong : ChangeSpec := { name := "montPowers", fn := fun _ => fun
  | [d1, d2, d3, d4, d5, d6, d7] => { results := [.lit (.bool false)], args := [d1, d2, d3, d4, d5, d6, d7] }
  | _ => none }
def MontPowersWrongFalsely : Prop := montPowersRow.holds Try.pinned (OpenSpec.ofChange montPowersWrong)

/-- 'sentinellaw2.MontInverse': WHATEVER THE INPUT: true; the input reads as it did. -/
def montInverseSpec : ChangeSpec := { name := "montInverse", fn := fun _ => fun
  | [d1, d2, d3, d4, d5] => { results := [.lit (.bool true)], args := [d1, d2, d3, d4, d5] }
  | _ => none }
def montInverseRow : OpenClaim := { program := "ytlpeloenigdfdaa", sum := "f6ffee036fe43be11965d022631d71c2cf7ddbf33dd62e6c060a2eb329908523", func := "sentinel/sentinellaw2.MontInverse", spec := "montInverse", apart := false }
def MontInverseSaid : Prop := montInverseRow.holds Try.pinned (OpenSpec.ofChange montInverseSpec)

/-- ITS FALSE NEIGHBOUR: 'it returns false'. Refute it at one input. -/
def montInverseWrong : ChangeSpec := { name := "montInverse", fn := fun _ => fun
  | [d1, d2, d3, d4, d5] => { results := [.lit (.bool false)], args := [d1, d2, d3, d4, d5] }
  | _ => none }
def MontInverseWrongFalsely : Prop := montInverseRow.holds Try.pinned (OpenSpec.ofChange montInverseWrong)

/-- 'sentinellaw2.MontSmall': WHATEVER THE INPUT: true; the input reads as it did. -/
def montSmallSpec : ChangeSpec := { name := "montSmall", fn := fun _ => fun
  | [d1, d2, d3] => { results := [.lit (.bool true)], args := [d1, d2, d3] }
  | _ => none }
def montSmallRow : OpenClaim := { program := "ytlpeloenigdfdaa", sum := "f6ffee036fe43be11965d022631d71c2cf7ddbf33dd62e6c060a2eb329908523", func := "sentinel/sentinellaw2.MontSmall", spec := "montSmall", apart := false }
def MontSmallSaid : Prop := montSmallRow.holds Try.pinned (OpenSpec.ofChange montSmallSpec)

/-- ITS FALSE NEIGHBOUR: 'it returns false'. Refute it at one input. -/
def montSmallWrong : ChangeSpec := { name := "montSmall", fn := fun _ => fun
  | [d1, d2, d3] => { results := [.lit (.bool false)], args := [d1, d2, d3] }
  | _ => none }
def MontSmallWrongFalsely : Prop := montSmallRow.holds Try.pinned (OpenSpec.ofChange montSmallWrong)

/-- 'sentinellaw2.MontExponents': WHATEVER THE INPUT: true; the input reads as it did. -/
def montExponentsSpec : ChangeSpec := { name := "montExponents", fn := fun _ => fun
  | [d1, d2, d3, d4, d5, d6, d7, d8] => { results := [.lit (.bool true)], args := [d1, d2, d3, d4, d5, d6, d7, d8] }
  | _ => none }
def montExponentsRow : OpenClaim := { program := "ytlpeloenigdfdaa", sum := "f6ffee036fe43be11965d022631d71c2cf7ddbf33dd62e6c060a2eb329908523", func := "sentinel/sentinellaw2.MontExponents", spec := "montExponents", apart := false }
def MontExponentsSaid : Prop := montExponentsRow.holds Try.pinned (OpenSpec.ofChange montExponentsSpec)

/-- ITS FALSE NEIGHBOUR: 'it returns false'. Refute it at one input. -/
def montExponentsWrong : ChangeSpec := { name := "montExponents", fn := fun _ => fun
  | [d1, d2, d3, d4, d5, d6, d7, d8] => { results := [.lit (.bool false)], args := [d1, d2, d3, d4, d5, d6, d7, d8] }
  | _ => none }
def MontExponentsWrongFalsely : Prop := montExponentsRow.holds Try.pinned (OpenSpec.ofChange montExponentsWrong)

/-- 'sentinellaw2.MontUnits': WHATEVER THE INPUT: true; the input reads as it did. -/
def montUnitsSpec : ChangeSpec := { name := "montUnits", fn := fun _ => fun
  | [d1, d2, d3, d4] => { results := [.lit (.bool true)], args := [d1, d2, d3, d4] }
  | _ => none }
def montUnitsRow : OpenClaim := { program := "ytlpeloenigdfdaa", sum := "f6ffee036fe43be11965d022631d71c2cf7ddbf33dd62e6c060a2eb329908523", func := "sentinel/sentinellaw2.MontUnits", spec := "montUnits", apart := false }
def MontUnitsSaid : Prop := montUnitsRow.holds Try.pinned (OpenSpec.ofChange montUnitsSpec)

/-- ITS FALSE NEIGHBOUR: 'it returns false'. Refute it at one input. -/
def montUnitsWrong : ChangeSpec := { name := "montUnits", fn := fun _ => fun
  | [d1, d2, d3, d4] => { results := [.lit (.bool false)], args := [d1, d2, d3, d4] }
  | _ => none }
def MontUnitsWrongFalsely : Prop := montUnitsRow.holds Try.pinned (OpenSpec.ofChange montUnitsWrong)

/-- 'sentinellaw2.MontSums': WHATEVER THE INPUT: true; the input reads as it did. -/
def montSumsSpec : ChangeSpec := { name := "montSums", fn := fun _ => fun
  | [d1, d2, d3, d4, d5, d6] => { results := [.lit (.bool true)], args := [d1, d2, d3, d4, d5, d6] }
  | _ => none }
def montSumsRow : OpenClaim := { program := "ytlpeloenigdfdaa", sum := "f6ffee036fe43be11965d022631d71c2cf7ddbf33dd62e6c060a2eb329908523", func := "sentinel/sentinellaw2.MontSums", spec := "montSums", apart := false }
def MontSumsSaid : Prop := montSumsRow.holds Try.pinned (OpenSpec.ofChange montSumsSpec)

/-- ITS FALSE NEIGHBOUR: 'it returns false'. Refute it at one input. -/
def montSumsWrong : ChangeSpec := { name := "montSums", fn := fun _ => fun
  | [d1, d2, d3, d4, d5, d6] => { results := [.lit (.bool false)], args := [d1, d2, d3, d4, d5, d6] }
  | _ => none }
def MontSumsWrongFalsely : Prop := montSumsRow.holds Try.pinned (OpenSpec.ofChange montSumsWrong)

/-- 'sentinellaw2.MontTurned': WHATEVER THE INPUT: true; the input reads as it did. -/
def montTurnedSpec : ChangeSpec := { name := "montTurned", fn := fun _ => fun
  | [d1, d2, d3, d4] => { results := [.lit (.bool true)], args := [d1, d2, d3, d4] }
  | _ => none }
def montTurnedRow : OpenClaim := { program := "ytlpeloenigdfdaa", sum := "f6ffee036fe43be11965d022631d71c2cf7ddbf33dd62e6c060a2eb329908523", func := "sentinel/sentinellaw2.MontTurned", spec := "montTurned", apart := false }
def MontTurnedSaid : Prop := montTurnedRow.holds Try.pinned (OpenSpec.ofChange montTurnedSpec)

/-- ITS FALSE NEIGHBOUR: 'it returns false'. Refute it at one input. -/
def montTurnedWrong : ChangeSpec := { name := "montTurned", fn := fun _ => fun
  | [d1, d2, d3, d4] => { results := [.lit (.bool false)], args := [d1, d2, d3, d4] }
  | _ => none }
def MontTurnedWrongFalsely : Prop := montTurnedRow.holds Try.pinned (OpenSpec.ofChange montTurnedWrong)

/- THE SECOND FORM. 'bulk': how many values and letters a reading holds, each counted each time it is reached (what is shared counts as often as it is met; a slice's spare places count too). A statement '..UptoSaid' is the law's where the arguments, and the package variables that the reading takes, are together of bulk at most 1048576: NARROWER than '..Said'. Prove '..Said' where nothing that the law and all that it calls make is longer than what came in: it says more and counts as full. Else prove '..UptoSaid'. A law counts once. -/
mutual
def uptoBulk {H : Type} : DataW H → Nat
  | .lit (.string bytes) => bytes.length + 1
  | .lit _ => 1
  | .nil => 1
  | .ptr d => uptoBulk d + 1
  | .slice elems spare => uptoBulkAll elems + uptoBulkAll spare + 1
  | .agg parts => uptoBulkAll parts + 1
  | .iface _ d => uptoBulk d + 1
  | .map entries => uptoBulkEntries entries + 1
  | .held _ => 1
def uptoBulkAll {H : Type} : List (DataW H) → Nat
  | [] => 0
  | d :: r => uptoBulk d + uptoBulkAll r
def uptoBulkEntries {H : Type} : List (Lit × DataW H) → Nat
  | [] => 0
  | x :: r => uptoBulkEntry x + uptoBulkEntries r
def uptoBulkEntry {H : Type} : Lit × DataW H → Nat
  | (.string bytes, d) => bytes.length + uptoBulk d + 1
  | (_, d) => uptoBulk d + 1
 end
def uptoSmall : (H : Type) → List (DataW H) → Bool := fun _ ds => decide (uptoBulkAll ds ≤ 1048576)
def OpenSpec.upto (s : _root_.Go.ChangeSpec) : _root_.Go.OpenSpec := { _root_.Go.OpenSpec.ofChange s with cond := some uptoSmall }

/-- 'sentinellaw2.MontMakes', WHERE WHAT IT READS IS OF BULK AT MOST 1048576: true; the input reads as it did. -/
def montMakesUptoRow : OpenClaim := { program := "ytlpeloenigdfdaa", sum := "f6ffee036fe43be11965d022631d71c2cf7ddbf33dd62e6c060a2eb329908523", func := "sentinel/sentinellaw2.MontMakes", spec := "montMakes", apart := false, narrowed := true }
def MontMakesUptoSaid : Prop := montMakesUptoRow.holds Try.pinned (OpenSpec.upto montMakesSpec)

/-- 'sentinellaw2.MontMuls', WHERE WHAT IT READS IS OF BULK AT MOST 1048576: true; the input reads as it did. -/
def montMulsUptoRow : OpenClaim := { program := "ytlpeloenigdfdaa", sum := "f6ffee036fe43be11965d022631d71c2cf7ddbf33dd62e6c060a2eb329908523", func := "sentinel/sentinellaw2.MontMuls", spec := "montMuls", apart := false, narrowed := true }
def MontMulsUptoSaid : Prop := montMulsUptoRow.holds Try.pinned (OpenSpec.upto montMulsSpec)

/-- 'sentinellaw2.MontPowers', WHERE WHAT IT READS IS OF BULK AT MOST 1048576: true; the input reads as it did. -/
def montPowersUptoRow : OpenClaim := { program := "ytlpeloenigdfdaa", sum := "f6ffee036fe43be11965d022631d71c2cf7ddbf33dd62e6c060a2eb329908523", func := "sentinel/sentinellaw2.MontPowers", spec := "montPowers", apart := false, narrowed := true }
def MontPowersUptoSaid : Prop := montPowersUptoRow.holds Try.pinned (OpenSpec.upto montPowersSpec)

/-- 'sentinellaw2.MontInverse', WHERE WHAT IT READS IS OF BULK AT MOST 1048576: true; the input reads as it did. -/
def montInverseUptoRow : OpenClaim := { program := "ytlpeloenigdfdaa", sum := "f6ffee036fe43be11965d022631d71c2cf7ddbf33dd62e6c060a2eb329908523", func := "sentinel/sentinellaw2.MontInverse", spec := "montInverse", apart := false, narrowed := true }
def MontInverseUptoSaid : Prop := montInverseUptoRow.holds Try.pinned (OpenSpec.upto montInverseSpec)

/-- 'sentinellaw2.MontSmall', WHERE WHAT IT READS IS OF BULK AT MOST 1048576: true; the input reads as it did. -/
def montSmallUptoRow : OpenClaim := { program := "ytlpeloenigdfdaa", sum := "f6ffee036fe43be11965d022631d71c2cf7ddbf33dd62e6c060a2eb329908523", func := "sentinel/sentinellaw2.MontSmall", spec := "montSmall", apart := false, narrowed := true }
def MontSmallUptoSaid : Prop := montSmallUptoRow.holds Try.pinned (OpenSpec.upto montSmallSpec)

/-- 'sentinellaw2.MontExponents', WHERE WHAT IT READS IS OF BULK AT MOST 1048576: true; the input reads as it did. -/
def montExponentsUptoRow : OpenClaim := { program := "ytlpeloenigdfdaa", sum := "f6ffee036fe43be11965d022631d71c2cf7ddbf33dd62e6c060a2eb329908523", func := "sentinel/sentinellaw2.MontExponents", spec := "montExponents", apart := false, narrowed := true }
def MontExponentsUptoSaid : Prop := montExponentsUptoRow.holds Try.pinned (OpenSpec.upto montExponentsSpec)

/-- 'sentinellaw2.MontUnits', WHERE WHAT IT READS IS OF BULK AT MOST 1048576: true; the input reads as it did. -/
def montUnitsUptoRow : OpenClaim := { program := "ytlpeloenigdfdaa", sum := "f6ffee036fe43be11965d022631d71c2cf7ddbf33dd62e6c060a2eb329908523", func := "sentinel/sentinellaw2.MontUnits", spec := "montUnits", apart := false, narrowed := true }
def MontUnitsUptoSaid : Prop := montUnitsUptoRow.holds Try.pinned (OpenSpec.upto montUnitsSpec)

/-- 'sentinellaw2.MontSums', WHERE WHAT IT READS IS OF BULK AT MOST 1048576: true; the input reads as it did. -/
def montSumsUptoRow : OpenClaim := { program := "ytlpeloenigdfdaa", sum := "f6ffee036fe43be11965d022631d71c2cf7ddbf33dd62e6c060a2eb329908523", func := "sentinel/sentinellaw2.MontSums", spec := "montSums", apart := false, narrowed := true }
def MontSumsUptoSaid : Prop := montSumsUptoRow.holds Try.pinned (OpenSpec.upto montSumsSpec)

/-- 'sentinellaw2.MontTurned', WHERE WHAT IT READS IS OF BULK AT MOST 1048576: true; the input reads as it did. -/
def montTurnedUptoRow : OpenClaim := { program := "ytlpeloenigdfdaa", sum := "f6ffee036fe43be11965d022631d71c2cf7ddbf33dd62e6c060a2eb329908523", func := "sentinel/sentinellaw2.MontTurned", spec := "montTurned", apart := false, narrowed := true }
def MontTurnedUptoSaid : Prop := montTurnedUptoRow.holds Try.pinned (OpenSpec.upto montTurnedSpec)

end Rows
end Go.Proofs.Ytlpeloenigdfdaa
