/- NetOwners: closed facts of its row, one by one. -/
import Derived.Test.YtjpdagfdcniphaaGreatDoorCards
import Derived.Test.YtjpdagfdcniphaaGreatDoorTie
import Derived.ProofKit
import Derived.Deep.DeepHandedRow
import Derived.Lay
import Derived.MakeChecks
import Derived.JoinedCond
namespace Go.Proofs.YtjpdagfdcniphaaGreatDoor
open Go.ChangeShapes Go.WideShapes Go.ChangeAt Go.RowKit
set_option maxRecDepth 100000

theorem own_knob : ownKnob Tryz.prog.godebug = none := by kernel_rfl
theorem laid_out : laidOutB Tryz.prog = true := by kernel_rfl
noncomputable abbrev ownersWorld (os : Os) : World := (World.laidAll Tryz.prog os Rows.netOwnersRow.laid).forCall (fun _ _ => 0) ⟨#[], #[.slice none 0 0], []⟩
theorem owners_w1 (os : Os) : (ownersWorld os).variablesZipB Tryz.prog = true := by kernel_rfl
theorem owners_w2 (os : Os) : ((ownersWorld os).heap.toList.drop Tryz.prog.globals.size).take ((begin Tryz.prog (fun _ _ => 0) default).world.heap.size - Tryz.prog.globals.size) =
      (begin Tryz.prog (fun _ _ => 0) default).world.heap.toList.drop Tryz.prog.globals.size := by kernel_rfl
theorem owners_w3 (os : Os) : Input.okWideB Tryz.prog (ownersWorld os) 3 ⟨#[], #[.slice none 0 0], []⟩ = true := by kernel_rfl
theorem owners_l1 (os : Os) : (World.holding Tryz.prog os ⟨#[], #[], []⟩).layFits Tryz.prog Rows.netOwnersRow.laid [] = true := by kernel_rfl
theorem owners_l2 (os : Os) : (World.holding Tryz.prog os ⟨#[], #[], []⟩).layIfaces Tryz.prog Rows.netOwnersRow.laid (World.laidAll Tryz.prog os Rows.netOwnersRow.laid) = true := by kernel_rfl
theorem owners_reads (os : Os) {H : Type} (enc : TypeId × Value → H) : DataW.whole enc Tryz.prog (ownersWorld os).memory Tryz.f3.params.toList Rows.netOwnersSpec.vars false #[Value.slice none 0 0].toList 8 = some ([.nil], [], []) := by kernel_rfl
theorem owners_c1 : Rows.netOwnersRow.domain.all (PathCond.test Tryz.prog ⟨Tryz.f3.params.toList, ([.nil] : List (DataW Unit)), (OpenSpec.ofChange Rows.netOwnersSpec).bare.plain.varTypes Tryz.prog, []⟩) = true := by kernel_rfl
theorem owners_c2 (os : Os) {H : Type} (enc : TypeId × Value → H) : (OpenSpec.ofChange Rows.netOwnersSpec).bare.sizedB enc Tryz.prog Tryz.f3 false (ownersWorld os).memory #[.slice none 0 0] 8 = true := by kernel_rfl
theorem owners_c3 : (Rows.netOwnersRow.laid.all fun x => x.2.handleName?.isNone) = true := by kernel_rfl
theorem owners_c4 : Tryz.checked.prog.inits.idxOf? 3 = none := by kernel_rfl
theorem owners_c5 : Tryz.pinned.checked.prog.funcNamed Rows.netOwnersRow.func = some 3 := by kernel_rfl
theorem owners_c6 : decide (Tryz.f3.isInstance Tryz.pinned.checked.prog Rows.netOwnersRow.origin Rows.netOwnersRow.targs) = true := by kernel_rfl
theorem owners_c7 : Tryz.f3.isWrapper Tryz.pinned.checked.prog Rows.netOwnersRow.wrapper Rows.netOwnersRow.mainSum := by unfold Func.isWrapper; first | (rw [if_pos (by decide +kernel)]; kernel_rfl) | (rw [if_neg (by decide +kernel)]; exact ⟨rfl, rfl⟩)
end Go.Proofs.YtjpdagfdcniphaaGreatDoor
