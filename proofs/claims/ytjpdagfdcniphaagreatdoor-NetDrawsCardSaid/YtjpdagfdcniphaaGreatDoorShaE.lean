/- SHA-256: what the reference puts behind a text -/
import Derived.Test.YtjpdagfdcniphaaGreatDoorShaA
set_option linter.unusedVariables false
set_option linter.unusedSimpArgs false
namespace Go.Proofs.YtjpdagfdcniphaaGreatDoor
open Go.RowKit

set_option maxRecDepth 100000 in
set_option maxHeartbeats 2000000 in
theorem ref_pad (n : Nat) (hn : n < 1000000000000) (w : World) :
    Calls Tryz.prog 53 #[.int .i64 n] w fun e w' => e = .returned (.string (strOfNums (ShaS.pad n))) ∧ Below w.heap.size w w' := by
  obtain ⟨i0, hi, hz0, hz1, hz2⟩ := info_parts info_u8
  have hz : ShaS.padZ n < 64 := by unfold ShaS.padZ; omega
  have hneg : ¬ (n : Int) < 0 := by omega
  go_enter Tryz.func53, Tryz.ntmps53
  go_wp2_with fail
  go_loopw [3] (fun v wr => ∃ k : Nat, k ≤ ShaS.padZ n ∧ wr.ownsRow w.heap.size 5 1 v (k + 1) (((128 : Int) :: List.replicate k 0).map (.int .u8)) ∧ Below w.heap.size w wr) (fun v _ => 100 - (match v with | .slice _ l _ => l | _ => 0))
  case atStart => exact ⟨0, by omega, World.ownsRow_lit w #[.int .u8 128] 1 (Nat.le_refl _) (by decide) rfl, (Below.refl _ _).alloc (Nat.le_refl _) _⟩
  case round =>
    obtain ⟨k, hk, hown, hbel⟩ := hrel
    obtain ⟨g, cap, rfl, hg0, hg1⟩ := hown.form (by omega)
    have hsz := hbel.size
    by_cases hlt : k < ShaS.padZ n
    · have ht : (((n : Int) + ((k : Int) + 1) + 8) % 64 != 0) = true := by
        rw [bne_iff_ne]; unfold ShaS.padZ at hlt; omega
      go_wp2_with (refine wpList_append_keep rfl _ _ _ rfl w.heap.size 5 i0 _ 1 1 Tryz.underlying28 hi hz0 hz1 hz2 rfl (by decide) (.slice (some ⟨g, 0, none⟩) (k + 1) cap) (k + 1) _ rfl (hown.alloc _) ⟨wr.heap.size, 0, none⟩ 1 1 [_] rfl rfl (World.news_of_block (heap_alloc_new _ _)) (by simp [Value.oneCell']) (by omega) (by unfold maxLen; omega) (by omega) (by first | omega | (simp; omega)) ?_; intro g' cap' w1 hA)
      have hb1 : Below w.heap.size w w1 := Below.appended (by have hsz := (hbel).size; repeat' (first | exact hbel | refine Below.drew ?_ | refine below_drewN ?_ _ | refine Below.alloc ?_ (by first | omega | (simp; omega)) _)) hA (by simp; omega) (own_ge hown)
      go_wp2
      go_roundw
      case rel =>
        refine ⟨k + 1, by omega, ?_, hb1⟩
        have e : ((128 : Int) :: List.replicate (k + 1) 0).map (Value.int .u8) = ((128 : Int) :: List.replicate k 0).map (Value.int .u8) ++ [.int .u8 0] := by
          simp [List.replicate_succ']
        rw [e]
        exact hA.own
      case measure => simp; omega
    · have hkz : k = ShaS.padZ n := by omega
      have ht : (((n : Int) + ((k : Int) + 1) + 8) % 64 != 0) = false := by
        rw [bne_eq_false_iff_eq]; unfold ShaS.padZ at hkz; omega
      have HK := Lib.hid hkz
      have hk64 : k < 64 := by omega
      clear hkz hlt hk
      go_wp2_with fail
      go_loopw [3, 5] (fun v i wr => ∃ j : Nat, j ≤ 8 ∧ i = .int .i64 (7 - (j : Int)) ∧ wr.ownsRow w.heap.size 5 1 v (k + 1 + j) (((128 : Int) :: List.replicate k 0 ++ ShaS.be8 (n * 8 : Int) j).map (.int .u8)) ∧ Below w.heap.size w wr) (fun _ i _ => (intOf i + 1).toNat)
      case atStart => exact ⟨0, by omega, rfl, by simpa [ShaS.be8] using hown, hbel⟩
      case round =>
        clear hown hbel hsz
        obtain ⟨j, hj, rfl, hown, hbel⟩ := hrel
        obtain ⟨g, cap, rfl, hg0, hg1⟩ := hown.form (by omega)
        have hsz := hbel.size
        by_cases hlt : j < 8
        · have d0 : (0 : Int) ≤ 7 - (j : Int) := by omega
          have d1 : (j : Int) ≤ 7 := by omega
          go_wp2_with (refine wpList_append_keep rfl _ _ _ rfl w.heap.size 5 i0 _ 1 1 Tryz.underlying28 hi hz0 hz1 hz2 rfl (by decide) (.slice (some ⟨g, 0, none⟩) (k + 1 + j) cap) (k + 1 + j) _ rfl (hown.alloc _) ⟨wr.heap.size, 0, none⟩ 1 1 [_] rfl rfl (World.news_of_block (heap_alloc_new _ _)) (by simp [Value.oneCell']) (by omega) (by unfold maxLen; omega) (by omega) (by first | omega | (simp; omega)) ?_; intro g' cap' w1 hA)
          have hb1 : Below w.heap.size w w1 := Below.appended (by have hsz := (hbel).size; repeat' (first | exact hbel | refine Below.drew ?_ | refine below_drewN ?_ _ | refine Below.alloc ?_ (by first | omega | (simp; omega)) _)) hA (by simp; omega) (own_ge hown)
          go_wp2
          go_roundw
          case rel =>
            refine ⟨j + 1, by omega, by go_num, ?_, hb1⟩
            have e : ((128 : Int) :: List.replicate k 0 ++ ShaS.be8 (n * 8 : Int) (j + 1)).map (Value.int .u8) = ((128 : Int) :: List.replicate k 0 ++ ShaS.be8 (n * 8 : Int) j).map (Value.int .u8) ++ [.int .u8 ((n : Int) * 8 / 2 ^ (8 * (7 - j)) % 256)] := by
              simp [ShaS.be8_succ]
            rw [e]
            exact hA.own
          case measure => simp [intOf]; omega
        · have hj8 : j = 8 := by omega
          subst hj8
          have hc := conv_own (P := Tryz.prog) wr 28 9 5 Tryz.underlying28 Tryz.underlying5 Tryz.underlying9 _ _ _ _ hown
          have e : ((128 : Int) :: List.replicate k 0 ++ ShaS.be8 (n * 8 : Int) 8) = ShaS.pad n := by rw [HK.out]; rfl
          rw [e] at hc
          clear e
          go_wp2
          go_ret
          exact ⟨rfl, hbel⟩
end Go.Proofs.YtjpdagfdcniphaaGreatDoor
