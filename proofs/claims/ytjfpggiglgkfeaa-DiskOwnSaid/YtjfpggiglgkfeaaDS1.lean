/- Part of a proof: the text of the functions over the ideal memory. -/
import Derived.Test.YtjfpggiglgkfeaaDIG
import Derived.Test.YtjfpggiglgkfeaaProg
set_option linter.unusedVariables false
set_option linter.unusedSimpArgs false
namespace Go.Proofs
theorem Try.mixed : Try.prog.follows .mixedOrders = true := by kernel_rfl
end Go.Proofs
