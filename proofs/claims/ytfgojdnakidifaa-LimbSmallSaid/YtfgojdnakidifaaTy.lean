/-
  The types that the contracts meet, by their numbers in this translation.
-/
import Derived.Test.YtfgojdnakidifaaAmStr
import Derived.Test.YtfgojdnakidifaaProg
import Derived.KernelRfl
set_option linter.unusedSimpArgs false
set_option linter.unusedVariables false
namespace Go.Proofs.Ytfgojdnakidifaa
open Go.Am
theorem numL_zero : numL 0 = List.replicate 8 (.int .u32 0) := by
  have h : numL 0 = famL (fun _ => .int .u32 0) 8 := famL_congr fun i _ => by simp [limbA, limb_def]
  rw [h]
  rfl
theorem mixed : Try.prog.follows .mixedOrders = true := by kernel_rfl
theorem tyInt : tyI Try.prog 3 = some ⟨1, 8, false, [.int .i64 0], .int .i64⟩ := by kernel_rfl
theorem tyBool : tyI Try.prog 4 = some ⟨1, 1, false, [.bool false], .bool⟩ := by kernel_rfl
theorem tyU8 : tyI Try.prog 5 = some ⟨1, 1, false, [.int .u8 0], .int .u8⟩ := by kernel_rfl
theorem tyU32 : tyI Try.prog 25 = some ⟨1, 4, false, [.int .u32 0], .int .u32⟩ := by kernel_rfl
theorem tyU64 : tyI Try.prog 53 = some ⟨1, 8, false, [.int .u64 0], .int .u64⟩ := by kernel_rfl
theorem tyUint : tyI Try.prog 35 = some ⟨1, 8, false, [.int .u64 0], .int .u64⟩ := by kernel_rfl
theorem tyStr : tyI Try.prog 9 = some ⟨1, 16, false, [.str ByteArray.empty], .str⟩ := by kernel_rfl
theorem tyNum : tyI Try.prog 27 = some ⟨8, 32, true, numL 0, .array 8 25 1 false⟩ := by rw [numL_zero]; kernel_rfl
theorem tyWide : tyI Try.prog 52 = some ⟨16, 64, true, famL (fun _ => .int .u32 0) 16, .array 16 25 1 false⟩ := by kernel_rfl
theorem tyBytes : tyI Try.prog 23 = some ⟨1, 24, false, [.nils], .slice 5 1 false 1⟩ := by kernel_rfl
theorem tyInts : tyI Try.prog 22 = some ⟨1, 24, false, [.nils], .slice 3 1 false 8⟩ := by kernel_rfl
theorem tyU32s : tyI Try.prog 54 = some ⟨1, 24, false, [.nils], .slice 25 1 false 4⟩ := by kernel_rfl
theorem eqkNum : eqK Try.prog 27 = some (List.replicate 8 (.i .u32)) := by kernel_rfl
theorem isBool : isBoolT Try.prog 4 = true := by kernel_rfl
end Go.Proofs.Ytfgojdnakidifaa
