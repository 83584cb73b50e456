/-
  The types that the program's code names.
-/
import Derived.Test.YteafcknljhglkaaDoorProg
import Derived.Test.YteafcknljhglkaaDoorTlV
set_option linter.unusedVariables false
set_option linter.unusedSimpArgs false
namespace Go.Proofs.YteafcknljhglkaaDoor
open Go.RowKit TL
theorem ti3 : tiOf Tryd.prog 3 = some ⟨.int .i64, 1, 8, .int (.i64) 0⟩ := by kernel_rfl
theorem ti4 : tiOf Tryd.prog 4 = some ⟨.bool, 1, 1, .bool false⟩ := by kernel_rfl
theorem ti5 : tiOf Tryd.prog 5 = some ⟨.int .u8, 1, 1, .int (.u8) 0⟩ := by kernel_rfl
theorem ti22 : tiOf Tryd.prog 22 = some ⟨.int .u16, 1, 2, .int (.u16) 0⟩ := by kernel_rfl
theorem ti24 : tiOf Tryd.prog 24 = some ⟨.slice 5, 1, 24, .slice none 0 0⟩ := by kernel_rfl
theorem ti28 : tiOf Tryd.prog 28 = some ⟨.slice 36, 1, 24, .slice none 0 0⟩ := by kernel_rfl
def fs30 : Array Field := #[⟨"H", 28, 0, false, "", "", 0⟩, ⟨"K", 28, 1, false, "", "", 24⟩]
theorem fs30_0 : fs30[0]? = some ⟨"H", 28, 0, false, "", "", 0⟩ := rfl
theorem fs30_1 : fs30[1]? = some ⟨"K", 28, 1, false, "", "", 24⟩ := rfl
theorem pl30 : placesOf Tryd.prog fs30.toList = some [(0, 1), (1, 1)] := by kernel_rfl
def zero30 : Value := .agg #[.slice none 0 0, .slice none 0 0]
theorem zero30_c : ofConst zero30 = .agg [.sl .full 0 [], .sl .full 0 []] := rfl
theorem ti30 : tiOf Tryd.prog 30 = some ⟨.struct fs30, 2, 48, zero30⟩ := by kernel_rfl
theorem ti36 : tiOf Tryd.prog 36 = some ⟨.int .u32, 1, 4, .int (.u32) 0⟩ := by kernel_rfl
def zero37 : Value := .agg (Array.replicate 8 (.int (.u32) 0))
theorem ti37 : tiOf Tryd.prog 37 = some ⟨.array 8 36, 8, 32, zero37⟩ := by kernel_rfl
theorem ti39 : tiOf Tryd.prog 39 = some ⟨.int .u64, 1, 8, .int (.u64) 0⟩ := by kernel_rfl
theorem ti40 : tiOf Tryd.prog 40 = some ⟨.int .u64, 1, 8, .int (.u64) 0⟩ := by kernel_rfl
def zero44 : Value := .agg (Array.replicate 64 (.int (.u32) 0))
theorem ti44 : tiOf Tryd.prog 44 = some ⟨.array 64 36, 64, 256, zero44⟩ := by kernel_rfl
theorem ti46 : tiOf Tryd.prog 46 = some ⟨.slice 40, 1, 24, .slice none 0 0⟩ := by kernel_rfl
attribute [go_sem] ti3 ti4 ti5 ti22 ti24 ti28 fs30_0 fs30_1 pl30 zero30_c ti30 ti36 ti37 ti39 ti40 ti44 ti46
end Go.Proofs.YteafcknljhglkaaDoor
