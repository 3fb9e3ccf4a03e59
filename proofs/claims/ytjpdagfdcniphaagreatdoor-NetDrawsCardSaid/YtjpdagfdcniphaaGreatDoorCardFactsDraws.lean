/- NetDraws: closed facts of its row, one by one. -/
import Derived.Test.YtjpdagfdcniphaaGreatDoorCards
import Derived.Test.YtjpdagfdcniphaaGreatDoorTie
import Derived.ProofKit
import Derived.Deep.DeepHandedRow
import Derived.Lay
import Derived.MakeChecks
import Derived.JoinedCond
set_option linter.unusedVariables false
set_option linter.unusedSimpArgs false
namespace Go.Proofs.YtjpdagfdcniphaaGreatDoor
open Go.ChangeShapes Go.WideShapes Go.ChangeAt Go.RowKit
set_option maxRecDepth 100000

theorem draws_knob : ownKnob Tryz.prog.godebug = none := by kernel_rfl
theorem draws_laid_out : laidOutB Tryz.prog = true := by kernel_rfl
noncomputable abbrev drawsWorld (os : Os) : World := (World.laidAll Tryz.prog os Rows.netDrawsRow.laid).forCall (fun _ _ => 0) ⟨#[], #[.string ⟨#[]⟩, .slice none 0 0, .string ⟨#[]⟩], []⟩
theorem draws_w1 (os : Os) : (drawsWorld os).variablesZipB Tryz.prog = true := by kernel_rfl
theorem draws_w2 (os : Os) : ((drawsWorld os).heap.toList.drop Tryz.prog.globals.size).take ((begin Tryz.prog (fun _ _ => 0) default).world.heap.size - Tryz.prog.globals.size) =
      (begin Tryz.prog (fun _ _ => 0) default).world.heap.toList.drop Tryz.prog.globals.size := by kernel_rfl
theorem draws_w3 (os : Os) : Input.okWideB Tryz.prog (drawsWorld os) 4 ⟨#[], #[.string ⟨#[]⟩, .slice none 0 0, .string ⟨#[]⟩], []⟩ = true := by kernel_rfl
theorem draws_l1 (os : Os) : (World.holding Tryz.prog os ⟨#[], #[], []⟩).layFits Tryz.prog Rows.netDrawsRow.laid [] = true := by kernel_rfl
theorem draws_l2 (os : Os) : (World.holding Tryz.prog os ⟨#[], #[], []⟩).layIfaces Tryz.prog Rows.netDrawsRow.laid (World.laidAll Tryz.prog os Rows.netDrawsRow.laid) = true := by kernel_rfl
theorem draws_reads (os : Os) {H : Type} (enc : TypeId × Value → H) : DataW.whole enc Tryz.prog (drawsWorld os).memory Tryz.f4.params.toList Rows.netDrawsSpec.vars false (#[.string ⟨#[]⟩, .slice none 0 0, .string ⟨#[]⟩] : Array Value).toList 8 = some ([.lit (.string []), .nil, .lit (.string [])], [], []) := by kernel_rfl
theorem draws_c1 : Rows.netDrawsRow.domain.all (PathCond.test Tryz.prog ⟨Tryz.f4.params.toList, ([.lit (.string []), .nil, .lit (.string [])] : List (DataW Unit)), (OpenSpec.ofChange Rows.netDrawsSpec).bare.plain.varTypes Tryz.prog, []⟩) = true := by kernel_rfl
theorem draws_c2 (os : Os) {H : Type} (enc : TypeId × Value → H) : (OpenSpec.ofChange Rows.netDrawsSpec).bare.sizedB enc Tryz.prog Tryz.f4 false (drawsWorld os).memory #[.string ⟨#[]⟩, .slice none 0 0, .string ⟨#[]⟩] 8 = true := by kernel_rfl
theorem draws_c3 : (Rows.netDrawsRow.laid.all fun x => x.2.handleName?.isNone) = true := by kernel_rfl
theorem draws_c4 : Tryz.checked.prog.inits.idxOf? 4 = none := by kernel_rfl
theorem draws_c5 : Tryz.pinned.checked.prog.funcNamed Rows.netDrawsRow.func = some 4 := by kernel_rfl
theorem draws_c6 : decide (Tryz.f4.isInstance Tryz.pinned.checked.prog Rows.netDrawsRow.origin Rows.netDrawsRow.targs) = true := by kernel_rfl
theorem draws_c7 : Tryz.f4.isWrapper Tryz.pinned.checked.prog Rows.netDrawsRow.wrapper Rows.netDrawsRow.mainSum := by unfold Func.isWrapper; first | (rw [if_pos (by decide +kernel)]; kernel_rfl) | (rw [if_neg (by decide +kernel)]; exact ⟨rfl, rfl⟩)
end Go.Proofs.YtjpdagfdcniphaaGreatDoor
