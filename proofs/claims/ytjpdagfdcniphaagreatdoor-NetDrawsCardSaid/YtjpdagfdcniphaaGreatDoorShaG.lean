/- SHA-256: the program's words of a block -/
import Derived.Test.YtjpdagfdcniphaaGreatDoorShaA
import Derived.Test.YtjpdagfdcniphaaGreatDoorArr
set_option linter.unusedVariables false
set_option linter.unusedSimpArgs false
namespace Go.Proofs.YtjpdagfdcniphaaGreatDoor
open Go.RowKit

theorem under_arr64 : Tryz.prog.underlying 252 = some (.array 64 34) := Tryz.underlying252
theorem size_arr64 : (Tryz.prog.info? 252).map (·.size) = some 64 := by kernel_rfl

def zeros64 : List Value := List.replicate 64 (.int .u32 0)
theorem zeros64_eq : zeros64 = (List.replicate 64 (0 : Int)).map (.int .u32) := by simp [zeros64]

set_option maxRecDepth 100000 in
set_option maxHeartbeats 2000000 in
theorem sha_schedule (g off cap : Nat) (bs : List Int) (hbs : ShaS.Bytes bs) (hl : bs.length = 64) (w : World) (hc : ∀ j, j < 64 → w.cell? ⟨g, off + j, none⟩ = some (.int .u8 (bs.getD j 0))) :
    Calls Tryz.prog 140 #[.slice (some ⟨g, off, none⟩) 64 cap] w fun e w' => e = .returned (.agg ((ShaS.wl bs 64).map (.int .u32)).toArray) ∧ Below w.heap.size w w' := by
  have HC := Lib.hid hc
  clear hc
  go_enter Tryz.func140, Tryz.ntmps140
  go_wp2_with fail
  go_loopw [9] (fun i wr => ∃ j : Nat, j ≤ 16 ∧ i = .int .i64 (j : Int) ∧ ArrAt wr w.heap.size 252 ((List.replicate 64 (0 : Int)).map (.int .u32)) ∧ ArrAt wr (w.heap.size + 1) 252 ((ShaS.arrW bs j 0).map (.int .u32)) ∧ Below w.heap.size w wr) (fun i _ => (16 - intOf i).toNat)
  case atStart =>
    refine ⟨0, by omega, rfl, ?_, ?_, ((Below.refl _ _).alloc (Nat.le_refl _) _).alloc (by simp) _⟩
    · exact (ArrAt.new w ((List.replicate 64 (0 : Int)).map (.int .u32)) _).alloc _
    · have := ArrAt.new (w.alloc (.cells ((List.replicate 64 (0 : Int)).map (Value.int .u32)).toArray 252)) ((ShaS.arrW bs 0 0).map (.int .u32)) 252
      rw [show (w.alloc (.cells ((List.replicate 64 (0 : Int)).map (Value.int .u32)).toArray 252)).heap.size = w.heap.size + 1 by simp] at this
      exact this
  case round =>
    obtain ⟨i, hi, rfl, hA, hB, hbel⟩ := hrel
    have hsz := hbel.size
    by_cases hlt : i < 16
    · have hiI : (i : Int) < 16 := by omega
      go_wp2_with fail
      obtain ⟨wo, rfl⟩ : ∃ wo : World, wo = wr := ⟨_, rfl⟩
      go_loopw [12] (fun x wr => ∃ k : Nat, k ≤ 4 ∧ x = .int .i64 (k : Int) ∧ ArrAt wr w.heap.size 252 ((List.replicate 64 (0 : Int)).map (.int .u32)) ∧ ArrAt wr (w.heap.size + 1) 252 ((ShaS.arrW bs i k).map (.int .u32)) ∧ Below w.heap.size w wr) (fun x _ => (4 - intOf x).toNat)
      case atStart => exact ⟨0, by omega, rfl, hA, hB, hbel⟩
      case round =>
        clear hA hB hbel hsz
        obtain ⟨k, hk, rfl, hA, hB, hbel⟩ := hrel
        have hsz := hbel.size
        by_cases hlk : k < 4
        · obtain ⟨y, Y, cy, _⟩ := hB.num i (by rw [ShaS.arrW_length _ _ _ (by omega)]; omega)
          have hy : y = ShaS.pw bs i k := Y.out.trans (ShaS.arrW_at bs i k)
          have hyr := ShaS.pw_small hbs i k hlk
          rw [← hy] at hyr
          obtain ⟨y0, y1⟩ := hyr
          have HY := Lib.hid hy
          clear hy Y
          obtain ⟨b, hb⟩ : ∃ b, b = bs.getD (4 * i + k) 0 := ⟨_, rfl⟩
          have cb : wr.cell? ⟨g, off + (4 * i + k), none⟩ = some (.int .u8 b) := by
            rw [hbel.cell (p := ⟨g, off + (4 * i + k), none⟩) (block_lt_of_cell (HC.out 0 (by omega)) : g < w.heap.size), hb]; exact HC.out _ (by omega)
          have hbb := ShaS.getD_byte hbs (4 * i + k)
          rw [← hb] at hbb
          obtain ⟨b0, b1⟩ := hbb
          have HB := Lib.hid hb
          clear hb
          have hkI : (k : Int) < 4 := by omega
          have hfr := hB.frozen i
          have x1 : IntKind.i64.wrap (4 * (i : Int)) = 4 * (i : Int) := IntWalk.i64_in _ (by omega)
          have x2 : IntKind.i64.wrap (4 * (i : Int) + (k : Int)) = 4 * (i : Int) + (k : Int) := IntWalk.i64_in _ (by omega)
          have x3 : (0 : Int) ≤ 4 * (i : Int) + (k : Int) := by omega
          have x4 : 4 * (i : Int) + (k : Int) < 64 := by omega
          have x5 : (4 * (i : Int) + (k : Int)).toNat = 4 * i + k := by omega
          have x6 : (i : Int) < 64 := by omega
          go_wp2_with fail
          go_still_tail 14, (by kernel_rfl)
          change wpList _ _ _ _ _ wr.drew
          go_wp2
          go_roundw
          case rel =>
            rw [ShaS.pw_step y b y0 y1 b0 b1]
            refine ⟨k + 1, by omega, by go_num, (hA.other _ _ (by simp)).drew, ?_, (hbel.setCell (by simp) _).drew⟩
            have := hB.set i (.int .u32 (y * 256 + b))
            rw [← List.map_set, ShaS.arrW_set] at this
            have e : ShaS.arrW bs i (k + 1) = ShaS.wl bs i ++ (y * 256 + b) :: List.replicate (63 - i) 0 := by
              rw [HY.out, HB.out]; rfl
            rw [e]
            exact this.drew
          case measure => simp [intOf]; omega
        · have hk4 : k = 4 := by omega
          subst hk4
          go_wp2
          go_roundw
          case rel =>
            refine ⟨i + 1, by omega, by go_num, hA, ?_, hbel⟩
            rw [← ShaS.arrW_next bs i hlt]
            exact hB
          case measure => simp [intOf]; omega
    · have hi16 : i = 16 := by omega
      subst hi16
      go_wp2_with fail
      rw [show ((16 : Nat) : Int) = 16 from rfl]
      rw [ShaS.arrW_arrT] at hB
      go_loopw [6] (fun x wr => ∃ t : Nat, 16 ≤ t ∧ t ≤ 64 ∧ x = .int .i64 (t : Int) ∧ ArrAt wr w.heap.size 252 ((List.replicate 64 (0 : Int)).map (.int .u32)) ∧ ArrAt wr (w.heap.size + 1) 252 ((ShaS.arrT bs t).map (.int .u32)) ∧ Below w.heap.size w wr) (fun x _ => (64 - intOf x).toNat)
      case atStart => exact ⟨16, by omega, by omega, rfl, hA, hB, hbel⟩
      case round =>
        clear hA hB hbel hsz
        obtain ⟨t, ht0, ht1, rfl, hA, hB, hbel⟩ := hrel
        have hsz := hbel.size
        by_cases hlt : t < 64
        · have hln := ShaS.arrT_length bs t ht1
          obtain ⟨y15, Y15, c15, m15⟩ := hB.num (t - 15) (by omega)
          obtain ⟨y2, Y2, c2, m2⟩ := hB.num (t - 2) (by omega)
          obtain ⟨y7, Y7, c7, m7⟩ := hB.num (t - 7) (by omega)
          obtain ⟨y16, Y16, c16, m16⟩ := hB.num (t - 16) (by omega)
          obtain ⟨yt, _, ct, _⟩ := hB.num t (by omega)
          clear hln
          obtain ⟨l15, u15⟩ := ShaS.arrT_range hbs t _ m15
          obtain ⟨l2, u2⟩ := ShaS.arrT_range hbs t _ m2
          rw [ShaS.arrT_at _ _ _ (by omega)] at Y15 Y2 Y7 Y16
          have hfr := hB.frozen t
          have htI : (t : Int) < 64 := by omega
          have x15 : IntKind.i64.wrap ((t : Int) - 15) = (t : Int) - 15 := IntWalk.i64_in _ (by omega)
          have x2 : IntKind.i64.wrap ((t : Int) - 2) = (t : Int) - 2 := IntWalk.i64_in _ (by omega)
          have x7 : IntKind.i64.wrap ((t : Int) - 7) = (t : Int) - 7 := IntWalk.i64_in _ (by omega)
          have x16 : IntKind.i64.wrap ((t : Int) - 16) = (t : Int) - 16 := IntWalk.i64_in _ (by omega)
          have a15 : (15 : Int) ≤ (t : Int) := by omega
          have a2 : (2 : Int) ≤ (t : Int) := by omega
          have a7 : (7 : Int) ≤ (t : Int) := by omega
          have a16 : (16 : Int) ≤ (t : Int) := by omega
          have b15 : (t : Int) - 15 < 64 := by omega
          have b2 : (t : Int) - 2 < 64 := by omega
          have b7 : (t : Int) - 7 < 64 := by omega
          have b16 : (t : Int) - 16 < 64 := by omega
          have d15 : ((t : Int) - 15).toNat = t - 15 := by omega
          have d2 : ((t : Int) - 2).toNat = t - 2 := by omega
          have d7 : ((t : Int) - 7).toNat = t - 7 := by omega
          have d16 : ((t : Int) - 16).toNat = t - 16 := by omega
          go_wp2_with fail
          go_quiet (fail)
          go_wp2_with fail
          replace hA := hA.drewN nq
          replace hB := hB.drewN nq
          replace c15 : (wr.drewN nq).cell? _ = _ := c15
          replace c2 : (wr.drewN nq).cell? _ = _ := c2
          replace c7 : (wr.drewN nq).cell? _ = _ := c7
          replace c16 : (wr.drewN nq).cell? _ = _ := c16
          replace ct : (wr.drewN nq).cell? _ = _ := ct
          replace hfr : (wr.drewN nq).frozen? _ = _ := hfr
          replace hbel := below_drewN hbel nq
          generalize wr.drewN nq = wv at *
          refine wp_region_still_tail 28 (by kernel_rfl) (by kernel_rfl) ?_
          simp only [List.take_succ_cons, List.take_zero, List.drop_succ_cons, List.drop_zero]
          repeat still_step
          still_call (sha_turn _ _ (by assumption) (by assumption) (by omega) (by omega) _)
          repeat still_step
          still_call (sha_turn _ _ (by assumption) (by assumption) (by omega) (by omega) _)
          repeat still_step
          still_call (sha_turn _ _ (by assumption) (by assumption) (by omega) (by omega) _)
          repeat still_step
          still_call (sha_turn _ _ (by assumption) (by assumption) (by omega) (by omega) _)
          repeat still_step
          refine wpStill_nil ?_
          change wpList _ _ _ _ _ (World.drew _)
          go_wp2
          go_roundw
          case rel =>
            refine ⟨t + 1, by omega, by omega, by go_num, (hA.other _ _ (by simp)).drew, ?_, (hbel.setCell (by simp) _).drew⟩
            rw [← ShaS.arrT_next bs t ht0 hlt, List.map_set]
            unfold ShaS.nextW ShaS.g0 ShaS.g1
            rw [← Y15.out, ← Y2.out, ← Y7.out, ← Y16.out]
            exact (hB.set t _).drew
          case measure => simp [intOf]; omega
        · have ht64 : t = 64 := by omega
          subst ht64
          rw [ShaS.arrT_all] at hB
          go_wp2_with (first
            | (refine wpList_load_row rfl 252 _ rfl (w.heap.size + 1) rfl 252 _ (0, 0) _ hB under_arr64 rfl (by rw [size_arr64]; simp [ShaS.wl_length]) ?_)
            | (refine wpList_store_mid rfl 252 _ _ rfl w.heap.size 0 _ rfl rfl (by have := hA.there; simpa [ShaS.wl_length] using this) (by rw [size_arr64]; simp [ShaS.wl_length]) (by simp [Value.oneCell']) ?_))
          refine bodyPost_ret (v := .agg ((ShaS.wl bs 64).map (Value.int .u32)).toArray) (results_cell_row Tryz.results140 _ _ w.heap.size 252 _ (0, 0) _ rfl (ArrAt.setAll hA _ (by simp [ShaS.wl_length])) under_arr64 rfl (by rw [size_arr64]; simp [ShaS.wl_length])) rfl ⟨rfl, ?_⟩
          exact Below.setCells hbel _ (Nat.le_refl _) _ _
end Go.Proofs.YtjpdagfdcniphaaGreatDoor
