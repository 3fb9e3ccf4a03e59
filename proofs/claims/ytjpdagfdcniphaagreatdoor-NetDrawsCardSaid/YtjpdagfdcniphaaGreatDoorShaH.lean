/- SHA-256: the program's constants, and its first registers -/
import Derived.Test.YtjpdagfdcniphaaGreatDoorShaG
import Derived.Test.YtjpdagfdcniphaaGreatDoorKeep
import Derived.Deep.DeepCutAuto
set_option linter.unusedVariables false
set_option linter.unusedSimpArgs false
namespace Go.Proofs.YtjpdagfdcniphaaGreatDoor
open Go.RowKit

set_option maxRecDepth 100000 in
set_option maxHeartbeats 2000000 in
theorem sha_constants (w : World) :
    Calls Tryz.prog 141 #[] w fun e w' => e = .returned (.agg (ShaS.ks.map (.int .u32)).toArray) ∧ Below w.heap.size w w' := by
  have hA0 : ArrAt (w.alloc (.cells zeros64.toArray 252)) w.heap.size 252 zeros64 := ArrAt.new w zeros64 _
  have hB0 : Below w.heap.size w (w.alloc (.cells zeros64.toArray 252)) := (Below.refl _ _).alloc (Nat.le_refl _) _
  go_enter Tryz.func141, Tryz.ntmps141
  go_upto_region 1 with (fail)
  refine hide_world (C := fun v => Code.wp _ _ _ _ v) (P := fun v => ArrAt v w.heap.size 252 zeros64 ∧ Below w.heap.size w v) ⟨hA0, hB0⟩ ?_
  rintro wv ⟨hA0, hB0⟩
  have HA := Lib.hid hA0
  clear hA0
  refine wp_region_list ?_
  refine wpList_plain rfl fun K hK => ?_
  go_simp
  refine hK _ _ ?_
  clear hK K
  refine wpList_store_mid rfl 252 _ _ rfl w.heap.size 0 (ShaS.ks.map (.int .u32)).toArray rfl rfl (HA.out.there) (by rw [size_arr64]; rfl) (by simp [Value.oneCell']) ?_
  refine wpList_nil ?_
  rename_i h1
  refine h1 _ _ ?_
  go_wp2
  have h2 := HA.out.setAll (ShaS.ks.map (.int .u32)) rfl
  refine bodyPost_ret (v := .agg (ShaS.ks.map (Value.int .u32)).toArray) (results_cell_row Tryz.results141 _ _ w.heap.size 252 _ (0, 0) _ rfl h2 under_arr64 rfl (by rw [size_arr64]; rfl)) rfl ⟨rfl, ?_⟩
  exact Below.setCells hB0 _ (Nat.le_refl _) _ _

theorem under_regs : Tryz.prog.underlying 182 = some (.array 8 34) := Tryz.underlying182
theorem size_regs : (Tryz.prog.info? 182).map (·.size) = some 8 := by kernel_rfl

theorem sha_first (w : World) :
    Calls Tryz.prog 81 #[] w fun e w' => e = .returned (.agg (ShaS.iv.map (.int .u32)).toArray) ∧ Below w.heap.size w w' := by
  have hA : ArrAt (w.alloc (.cells (ShaS.iv.map (.int .u32)).toArray 182)) w.heap.size 182 (ShaS.iv.map (.int .u32)) := ArrAt.new w _ _
  have HA := Lib.hid hA
  clear hA
  go_enter Tryz.func81, Tryz.ntmps81
  go_wp2
  refine bodyPost_ret (v := .agg (ShaS.iv.map (Value.int .u32)).toArray) (results_cell_row Tryz.results81 _ _ w.heap.size 182 _ (0, 0) _ rfl HA.out under_regs rfl (by rw [size_regs]; rfl)) rfl ⟨rfl, ?_⟩
  exact (Below.refl _ _).alloc (Nat.le_refl _) _
end Go.Proofs.YtjpdagfdcniphaaGreatDoor
