/- Part of a proof: the text of the functions over the ideal memory. -/
import Derived.Test.YtjfpggiglgkfeaaDS1
set_option linter.unusedVariables false
set_option linter.unusedSimpArgs false
namespace Go.Ideal
open Go.Proofs
@[simp] theorem el22 : elO Try.prog 22 = some 5 := by kernel_rfl
@[simp] theorem sz22 : szO Try.prog 22 = some 1 := by kernel_rfl
@[simp] theorem ag22 : agO Try.prog 22 = some false := by kernel_rfl
@[simp] theorem zr5 : zrO Try.prog 5 = some [.int .u8 0] := by kernel_rfl
@[simp] theorem sz5 : szO Try.prog 5 = some 1 := by kernel_rfl
@[simp] theorem by5 : byO Try.prog 5 = some 1 := by kernel_rfl
@[simp] theorem u85 : isU8 Try.prog 5 = true := by kernel_rfl
@[simp] theorem st9 : strO Try.prog 9 = true := by kernel_rfl
@[simp] theorem sz3 : szO Try.prog 3 = some 1 := by kernel_rfl
@[simp] theorem ag3 : agO Try.prog 3 = some false := by kernel_rfl
@[simp] theorem zr47 : zrO Try.prog 47 = some [.snil, .int .i64 0] := by kernel_rfl
@[simp] theorem zr44 : zrO Try.prog 44 = some [.snil, .int .i64 0] := by kernel_rfl
@[simp] theorem fl47 : flO Try.prog 47 = some [(0, 1), (1, 1)] := by kernel_rfl
@[simp] theorem fl44 : flO Try.prog 44 = some [(0, 1), (1, 1)] := by kernel_rfl
@[simp] theorem fd47_0 : fdO Try.prog 47 0 = some (0, 1, false) := by kernel_rfl
@[simp] theorem fd47_1 : fdO Try.prog 47 1 = some (1, 1, false) := by kernel_rfl
@[simp] theorem fd44_0 : fdO Try.prog 44 0 = some (0, 1, false) := by kernel_rfl
@[simp] theorem fd44_1 : fdO Try.prog 44 1 = some (1, 1, false) := by kernel_rfl
@[simp] theorem fd39_0 : fdO Try.prog 39 0 = some (0, 1, false) := by kernel_rfl
@[simp] theorem fd39_1 : fdO Try.prog 39 1 = some (1, 1, false) := by kernel_rfl
@[simp] theorem fd39_2 : fdO Try.prog 39 2 = some (2, 1, false) := by kernel_rfl
@[simp] theorem ag39 : agO Try.prog 39 = some true := by kernel_rfl
@[simp] theorem sz39 : szO Try.prog 39 = some 3 := by kernel_rfl
@[simp] theorem el33 : elO Try.prog 33 = some 39 := by kernel_rfl
end Go.Ideal
