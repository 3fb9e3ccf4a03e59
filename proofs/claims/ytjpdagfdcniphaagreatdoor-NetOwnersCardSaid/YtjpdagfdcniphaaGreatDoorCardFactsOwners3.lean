/- NetOwners: the closed facts of its card. -/
import Derived.Test.YtjpdagfdcniphaaGreatDoorCards
import Derived.Test.YtjpdagfdcniphaaGreatDoorTie
import Derived.KernelRfl
namespace Go.Proofs.YtjpdagfdcniphaaGreatDoor
set_option maxRecDepth 100000
theorem owners_k1 : Rows.netOwnersRow.wfByText (OpenSpec.ofChange Rows.netOwnersSpec) = true := by kernel_rfl
theorem owners_k2 : Tryz.pinned.checked.prog.mainIs = some (Rows.netOwnersCard.stood.harness.1, Rows.netOwnersCard.stood.harness.2.toList) := by kernel_rfl
theorem owners_k3 : false = Rows.netOwnersRow.goesBy Tryz.pinned.checked.prog := by kernel_rfl
theorem owners_k4 : false = Tryz.pinned.checked.prog.looks [] := by kernel_rfl
theorem owners_k5 : Tryz.prog.wantsStandIn 22 = false := by kernel_rfl
end Go.Proofs.YtjpdagfdcniphaaGreatDoor
