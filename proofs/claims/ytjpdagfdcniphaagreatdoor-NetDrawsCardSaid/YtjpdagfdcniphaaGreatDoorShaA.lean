/- SHA-256: rotations -/
import Derived.Test.YtjpdagfdcniphaaGreatDoorBase
import Derived.Test.YtjpdagfdcniphaaGreatDoorShaPure
set_option linter.unusedVariables false
namespace Go.Proofs.YtjpdagfdcniphaaGreatDoor
open Go.RowKit

set_option maxHeartbeats 400000 in
theorem ref_right (x n : Int) (_h0 : 0 ≤ x) (_h1 : x < 4294967296) (n0 : 0 < n) (n1 : n < 32) (w : World) :
    Calls Tryz.prog 89 #[.int .u32 x, .int .i64 n] w fun e w' => e = .returned (.int .u32 (ShaS.rotr x n)) ∧ ∃ k, w' = w.drewN k := by
  go_enter Tryz.func89, Tryz.ntmps89
  go_wp2
  go_quiet (fail)
  go_wp2
  go_ret
  exact ⟨rfl, _, rfl⟩

theorem neg_and31' : ∀ m : Fin 32, 0 < m.val → bits .and .u64 (IntKind.u64.wrap (-(m.val : Int))) 31 = 32 - (m.val : Int) := by decide +kernel
theorem neg_and31 (n : Int) (n0 : 0 < n) (n1 : n < 32) : bits .and .u64 (IntKind.u64.wrap (-n)) 31 = 32 - n := by
  obtain ⟨m, rfl⟩ := Int.eq_ofNat_of_zero_le (Int.le_of_lt n0)
  exact neg_and31' ⟨m, by omega⟩ (by show 0 < m; omega)

set_option maxHeartbeats 400000 in
theorem rotl_any (x n : Int) (h0 : 0 ≤ x) (h1 : x < 4294967296) (n0 : 0 < n) (n1 : n < 32) (w : World) :
    Calls Tryz.prog 217 #[.int .u32 x, .int .i64 (-n)] w fun e w' => e = .returned (.int .u32 (ShaS.rotr x n)) ∧ w' = w := by
  have hb := neg_and31 n n0 n1
  go_enter Tryz.func217, Tryz.ntmps217
  go_wp2
  go_ret
  exact ⟨ret_int (by show bits .or .u32 (x * 2 ^ (32 - n).toNat % 4294967296) (x / 2 ^ (32 - (32 - n)).toNat) = _; rw [show 32 - (32 - n) = n by omega, ShaS.bits_or_comm]; rfl), rfl⟩

set_option maxHeartbeats 400000 in
theorem sha_turn (x n : Int) (h0 : 0 ≤ x) (h1 : x < 4294967296) (n0 : 0 < n) (n1 : n < 32) (w : World) :
    Calls Tryz.prog 142 #[.int .u32 x, .int .i64 n] w fun e w' => e = .returned (.int .u32 (ShaS.rotr x n)) ∧ w' = w := by
  go_enter Tryz.func142, Tryz.ntmps142
  go_wp2_with (go_at_call 217; refine (rotl_any _ _ h0 h1 n0 n1 _).mono ?_; rintro e w' ⟨rfl, rfl⟩)
  go_ret
  exact ⟨rfl, rfl⟩
end Go.Proofs.YtjpdagfdcniphaaGreatDoor
