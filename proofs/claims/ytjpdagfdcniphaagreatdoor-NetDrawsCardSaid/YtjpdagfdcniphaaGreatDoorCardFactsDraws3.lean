/- NetDraws: the closed facts of its card. -/
import Derived.Test.YtjpdagfdcniphaaGreatDoorCards
import Derived.Test.YtjpdagfdcniphaaGreatDoorTie
import Derived.KernelRfl
set_option linter.unusedVariables false
set_option linter.unusedSimpArgs false
namespace Go.Proofs.YtjpdagfdcniphaaGreatDoor
set_option maxRecDepth 100000
theorem draws_k1 : Rows.netDrawsRow.wfByText (OpenSpec.ofChange Rows.netDrawsSpec) = true := by kernel_rfl
theorem draws_k2 : Tryz.pinned.checked.prog.mainIs = some (Rows.netDrawsCard.stood.harness.1, Rows.netDrawsCard.stood.harness.2.toList) := by kernel_rfl
theorem draws_k3 : false = Rows.netDrawsRow.goesBy Tryz.pinned.checked.prog := by kernel_rfl
theorem draws_k4 : false = Tryz.pinned.checked.prog.looks [] := by kernel_rfl
theorem draws_k5 : ([9, 41, 9].all fun u => !Tryz.prog.wantsStandIn u) = true := by kernel_rfl
end Go.Proofs.YtjpdagfdcniphaaGreatDoor
