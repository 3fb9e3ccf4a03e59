/- SHA-256: the reference's constants, and its block -/
import Derived.Test.YtjpdagfdcniphaaGreatDoorShaB
set_option linter.unusedVariables false
set_option linter.unusedSimpArgs false
namespace Go.Proofs.YtjpdagfdcniphaaGreatDoor
open Go.RowKit

set_option maxRecDepth 100000 in
set_option maxHeartbeats 1000000 in
theorem ref_constants (w : World) :
    Calls Tryz.prog 88 #[] w fun e w' => ∃ v, e = .returned v ∧ w'.ownsRow w.heap.size 34 1 v 64 (ShaS.ks.map (.int .u32)) ∧ Below w.heap.size w w' := by
  go_enter Tryz.func88, Tryz.ntmps88
  go_wp2
  go_ret
  refine ⟨_, rfl, ?_, (Below.refl _ _).alloc (Nat.le_refl _) _⟩
  exact World.ownsRow_lit w _ 64 (Nat.le_refl _) (by decide) (by rfl)
end Go.Proofs.YtjpdagfdcniphaaGreatDoor
