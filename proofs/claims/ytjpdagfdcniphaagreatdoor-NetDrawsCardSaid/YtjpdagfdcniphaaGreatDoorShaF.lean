/- SHA-256: the reference's digest -/
import Derived.Test.YtjpdagfdcniphaaGreatDoorShaD
import Derived.Test.YtjpdagfdcniphaaGreatDoorShaE
set_option linter.unusedVariables false
set_option linter.unusedSimpArgs false
namespace Go.Proofs.YtjpdagfdcniphaaGreatDoor
open Go.RowKit

set_option maxRecDepth 100000 in
set_option maxHeartbeats 4000000 in
theorem ref_sum (s : ByteArray) (hs : s.size < 100000000) (w : World) :
    Calls Tryz.prog 31 #[.string s] w fun e w' => e = .returned (.string (strOfNums (ShaS.sum (bytesOf s)))) ∧ Below w.heap.size w w' := by
  obtain ⟨i0, hi, hz0, hz1, hz2⟩ := info_parts info_u8
  obtain ⟨all, hall⟩ : ∃ all : ByteArray, all = s ++ strOfNums (ShaS.pad s.size) := ⟨_, rfl⟩
  have HALL := Lib.hid hall
  have hasz : all.size = s.size + (ShaS.padZ s.size + 9) := by rw [hall, ByteArray.size_append, strOfNums_size, ShaS.pad_length]
  have hamod : all.size % 64 = 0 := by have := ShaS.pad_whole s.size; rw [ShaS.pad_length] at this; omega
  have hpz : ShaS.padZ s.size < 64 := by unfold ShaS.padZ; omega
  have hb : all.size < 200000000 := by omega
  obtain ⟨N, hN⟩ : ∃ N, all.size = 64 * N := ⟨all.size / 64, by omega⟩
  have HN := Lib.hid hN
  have HR : Hid (ShaS.sum (bytesOf s) = ShaS.outB (ShaS.regs (bytesOf all) N) 8) := by
    show _ = _
    unfold ShaS.sum
    have e : bytesOf s ++ ShaS.pad (bytesOf s).length = bytesOf all := by
      rw [hall, bytesOf_append, bytesOf_strOfNums (fun x hx => ShaS.pad_bytes _ x hx), bytesOf_length]
    rw [e, bytesOf_length, hN, Nat.mul_div_cancel_left _ (by decide)]
  have hcat : ∀ w : World, (Op.stringOp .add s (strOfNums (ShaS.pad s.size))).run Tryz.prog w = .ok (.string all) w := fun w => by
    rw [hall]; exact run_string_add_sum w _ _ (by rw [strOfNums_size, ShaS.pad_length]; omega)
  clear hasz hamod hpz hN hall
  go_enter Tryz.func31, Tryz.ntmps31
  go_wp2_with (go_at_call 53; refine (ref_pad s.size (by omega) _).mono ?_; rintro e w1 ⟨rfl, hb1⟩)
  clear hcat
  have hiv := World.ownsRow_lit (e := 34) (base := w.heap.size) (size := 1) w #[.int .u32 1779033703, .int .u32 3144134277, .int .u32 1013904242, .int .u32 2773480762, .int .u32 1359893119, .int .u32 2600822924, .int .u32 528734635, .int .u32 1541459225] 8 (Nat.le_refl _) (by decide) rfl
  have hiv1 := own_below hiv hb1 (by rintro k ⟨rfl⟩; simp)
  have hbw : Below w.heap.size w w1 := ((Below.refl _ _).alloc (Nat.le_refl _) _).trans (hb1.mono (by simp))
  clear hiv hb1
  go_loopw [3, 5] (fun vr i wr => ∃ k : Nat, k ≤ N ∧ i = .int .i64 (64 * (k : Int)) ∧ wr.ownsRow w.heap.size 34 1 vr 8 ((ShaS.regs (bytesOf all) k).map (.int .u32)) ∧ Below w.heap.size w wr) (fun _ i _ => (64 * N + 64 - intOf i).toNat)
  case atStart => exact ⟨0, by omega, rfl, hiv1, hbw⟩
  case round =>
    clear hiv1 hbw
    obtain ⟨k, hk, rfl, hown, hbel⟩ := hrel
    have hsz := hbel.size
    by_cases hlt : k < N
    · have hN := HN.out
      have h1 : (64 : Int) * (k : Int) + 64 ≤ (all.size : Int) := by omega
      have h0 : (0 : Int) ≤ 64 * (k : Int) := by omega
      have h2 : (64 : Int) * (k : Int) ≤ 64 * (k : Int) + 64 := by omega
      have h3 : (64 : Int) * (k : Int) ≤ 1000000000 := by omega
      clear hN
      go_wp2_with fail
      have hblk : (all.extract (64 * k) (64 * k + 64)).size = 64 := by rw [ByteArray.size_extract]; have := HN.out; omega
      refine (ref_block _ _ _ _ hblk (ShaS.regs_range _ _) _ hown).mono ?_
      rintro e w2 ⟨v2, rfl, hown2, hb2⟩
      clear hblk
      have hbw2 : Below w.heap.size w w2 := hbel.trans (hb2.mono hsz)
      go_wp2
      go_roundw
      case rel =>
        refine ⟨k + 1, by omega, by go_num, ?_, hbw2⟩
        rw [bytesOf_extract, show 64 * k + 64 - 64 * k = 64 by omega] at hown2
        exact own_base hown2 (fun k hk => Nat.le_trans hsz (own_ge hown2 k hk))
      case measure => simp [intOf]; omega
    · have hkN : k = N := by omega
      have h1 : ¬ (64 : Int) * (k : Int) + 64 ≤ (all.size : Int) := by have := HN.out; omega
      have h3 : (64 : Int) * (k : Int) ≤ 1000000000 := by have := HN.out; omega
      have HKN := Lib.hid hkN
      clear hkN hlt
      obtain ⟨g, cap, rfl, hg0, hg1⟩ := hown.form (by omega)
      go_wp2_with fail
      obtain ⟨wo, rfl⟩ : ∃ wo : World, wo = wr := ⟨_, rfl⟩
      go_loopw [6, 7] (fun v i wr => ∃ j : Nat, j ≤ 8 ∧ i = .int .i64 (j : Int) ∧ wr.ownsRow wo.heap.size 5 1 v (4 * j) ((ShaS.outB (ShaS.regs (bytesOf all) N) j).map (.int .u8)) ∧ Below wo.heap.size wo wr) (fun _ i _ => (8 - intOf i).toNat)
      case atStart => exact ⟨0, by omega, rfl, World.ownsRow_nil _ _ _ _, Below.refl _ _⟩
      case round =>
        obtain ⟨j, hj, rfl, hout, hbq⟩ := hrel
        have hsq := hbq.size
        by_cases hlt : j < 8
        · obtain ⟨y, Y, c, my⟩ := num_at hown j (by omega)
          have c' : wr.cell? ⟨g, j, none⟩ = some (.int .u32 y) := by rw [hbq.cell (p := ⟨g, j, none⟩) hg1]; exact c
          obtain ⟨y0, y1⟩ := ShaS.regs_range _ _ _ my
          have hjI : (j : Int) < 8 := by omega
          clear c
          go_wp2_with fail
          refine wp_region_held_drew (S := fun w' => w'.cell? ⟨g, j, none⟩ = some (.int .u32 y)) (by kernel_rfl) ?_ (fun hHeld => ?_)
          · (first | go_keep | exact (World.cell?_of_block (hA.grown.block g (by simp; omega) (fun h => by have := own_ge hout g h.symm; omega))).trans hHeld)
          refine wpAnyH_take (i := 0) (oi := _) (v := ?_) rfl (by kernel_rfl) (by kernel_rfl) (by kernel_rfl) (fun _ _ _ h => h) (Or.inl ⟨by rfl, ?_⟩) (by assumption) ?_
          rotate_left; (intro w hSw; (try dsimp only at hSw); go_simp; first | done | (with_reducible rfl) | fail "REGION: operation 0 is not decided")
          try simp only [Act.put, List.setIfInBounds_toArray, List.set_cons_zero, List.set_cons_succ]
          refine wpAnyH_take (i := 1) (oi := _) (v := ?_) rfl (by kernel_rfl) (by kernel_rfl) (by kernel_rfl) (fun _ _ _ h => h) (Or.inl ⟨by rfl, ?_⟩) (by assumption) ?_
          rotate_left; (intro w hSw; (try dsimp only at hSw); go_simp; first | done | (with_reducible rfl) | fail "REGION: operation 1 is not decided")
          try simp only [Act.put, List.setIfInBounds_toArray, List.set_cons_zero, List.set_cons_succ]
          refine wpAnyH_take (i := 2) (oi := _) (v := ?_) rfl (by kernel_rfl) (by kernel_rfl) (by kernel_rfl) (fun _ _ _ h => h) (Or.inl ⟨by rfl, ?_⟩) (by assumption) ?_
          rotate_left; (intro w hSw; (try dsimp only at hSw); go_simp; first | done | (with_reducible rfl) | fail "REGION: operation 2 is not decided")
          try simp only [Act.put, List.setIfInBounds_toArray, List.set_cons_zero, List.set_cons_succ]
          refine wpAnyH_take (i := 7) (oi := _) (v := ?_) rfl (by kernel_rfl) (by kernel_rfl) (by kernel_rfl) (fun _ _ _ h => h) (Or.inl ⟨by rfl, ?_⟩) (by assumption) ?_
          rotate_left; (intro w hSw; (try dsimp only at hSw); go_simp; first | done | (with_reducible rfl) | fail "REGION: operation 7 is not decided")
          try simp only [Act.put, List.setIfInBounds_toArray, List.set_cons_zero, List.set_cons_succ]
          refine wpAnyH_take (i := 8) (oi := _) (v := ?_) rfl (by kernel_rfl) (by kernel_rfl) (by kernel_rfl) (fun _ _ _ h => h) (Or.inl ⟨by rfl, ?_⟩) (by assumption) ?_
          rotate_left; (intro w hSw; (try dsimp only at hSw); go_simp; first | done | (with_reducible rfl) | fail "REGION: operation 8 is not decided")
          try simp only [Act.put, List.setIfInBounds_toArray, List.set_cons_zero, List.set_cons_succ]
          refine wpAnyH_take (i := 13) (oi := _) (v := ?_) rfl (by kernel_rfl) (by kernel_rfl) (by kernel_rfl) (fun _ _ _ h => h) (Or.inl ⟨by rfl, ?_⟩) (by assumption) ?_
          rotate_left; (intro w hSw; (try dsimp only at hSw); go_simp; first | done | (with_reducible rfl) | fail "REGION: operation 13 is not decided")
          try simp only [Act.put, List.setIfInBounds_toArray, List.set_cons_zero, List.set_cons_succ]
          refine wpAnyH_take (i := 14) (oi := _) (v := ?_) rfl (by kernel_rfl) (by kernel_rfl) (by kernel_rfl) (fun _ _ _ h => h) (Or.inl ⟨by rfl, ?_⟩) (by assumption) ?_
          rotate_left; (intro w hSw; (try dsimp only at hSw); go_simp; first | done | (with_reducible rfl) | fail "REGION: operation 14 is not decided")
          try simp only [Act.put, List.setIfInBounds_toArray, List.set_cons_zero, List.set_cons_succ]
          refine wpAnyH_take (i := 19) (oi := _) (v := ?_) rfl (by kernel_rfl) (by kernel_rfl) (by kernel_rfl) (fun _ _ _ h => h) (Or.inl ⟨by rfl, ?_⟩) (by assumption) ?_
          rotate_left; (intro w hSw; (try dsimp only at hSw); go_simp; first | done | (with_reducible rfl) | fail "REGION: operation 19 is not decided")
          try simp only [Act.put, List.setIfInBounds_toArray, List.set_cons_zero, List.set_cons_succ]
          refine wpAnyH_take (i := 20) (oi := _) (v := ?_) rfl (by kernel_rfl) (by kernel_rfl) (by kernel_rfl) (fun _ _ _ h => h) (Or.inl ⟨by rfl, ?_⟩) (by assumption) ?_
          rotate_left; (intro w hSw; (try dsimp only at hSw); go_simp; first | done | (with_reducible rfl) | fail "REGION: operation 20 is not decided")
          try simp only [Act.put, List.setIfInBounds_toArray, List.set_cons_zero, List.set_cons_succ]
          refine wpAnyH_take (i := 3) (oi := _) (v := ?_) rfl (by kernel_rfl) (by kernel_rfl) (by kernel_rfl) (fun _ _ _ h => h) (Or.inl ⟨by rfl, ?_⟩) (by assumption) ?_
          rotate_left; (intro w hSw; (try dsimp only at hSw); go_simp; first | done | (with_reducible rfl) | fail "REGION: operation 3 is not decided")
          try simp only [Act.put, List.setIfInBounds_toArray, List.set_cons_zero, List.set_cons_succ]
          refine wpAnyH_take (i := 9) (oi := _) (v := ?_) rfl (by kernel_rfl) (by kernel_rfl) (by kernel_rfl) (fun _ _ _ h => h) (Or.inl ⟨by rfl, ?_⟩) (by assumption) ?_
          rotate_left; (intro w hSw; (try dsimp only at hSw); go_simp; first | done | (with_reducible rfl) | fail "REGION: operation 9 is not decided")
          try simp only [Act.put, List.setIfInBounds_toArray, List.set_cons_zero, List.set_cons_succ]
          refine wpAnyH_take (i := 15) (oi := _) (v := ?_) rfl (by kernel_rfl) (by kernel_rfl) (by kernel_rfl) (fun _ _ _ h => h) (Or.inl ⟨by rfl, ?_⟩) (by assumption) ?_
          rotate_left; (intro w hSw; (try dsimp only at hSw); go_simp; first | done | (with_reducible rfl) | fail "REGION: operation 15 is not decided")
          try simp only [Act.put, List.setIfInBounds_toArray, List.set_cons_zero, List.set_cons_succ]
          refine wpAnyH_take (i := 21) (oi := _) (v := ?_) rfl (by kernel_rfl) (by kernel_rfl) (by kernel_rfl) (fun _ _ _ h => h) (Or.inl ⟨by rfl, ?_⟩) (by assumption) ?_
          rotate_left; (intro w hSw; (try dsimp only at hSw); go_simp; first | done | (with_reducible rfl) | fail "REGION: operation 21 is not decided")
          try simp only [Act.put, List.setIfInBounds_toArray, List.set_cons_zero, List.set_cons_succ]
          refine wpAnyH_take (i := 4) (oi := _) (v := ?_) rfl (by kernel_rfl) (by kernel_rfl) (by kernel_rfl) (fun _ _ _ h => h) (Or.inl ⟨by rfl, ?_⟩) (by assumption) ?_
          rotate_left; (intro w hSw; (try dsimp only at hSw); go_simp; first | done | (with_reducible rfl) | fail "REGION: operation 4 is not decided")
          try simp only [Act.put, List.setIfInBounds_toArray, List.set_cons_zero, List.set_cons_succ]
          refine wpAnyH_take (i := 10) (oi := _) (v := ?_) rfl (by kernel_rfl) (by kernel_rfl) (by kernel_rfl) (fun _ _ _ h => h) (Or.inl ⟨by rfl, ?_⟩) (by assumption) ?_
          rotate_left; (intro w hSw; (try dsimp only at hSw); go_simp; first | done | (with_reducible rfl) | fail "REGION: operation 10 is not decided")
          try simp only [Act.put, List.setIfInBounds_toArray, List.set_cons_zero, List.set_cons_succ]
          refine wpAnyH_take (i := 16) (oi := _) (v := ?_) rfl (by kernel_rfl) (by kernel_rfl) (by kernel_rfl) (fun _ _ _ h => h) (Or.inl ⟨by rfl, ?_⟩) (by assumption) ?_
          rotate_left; (intro w hSw; (try dsimp only at hSw); go_simp; first | done | (with_reducible rfl) | fail "REGION: operation 16 is not decided")
          try simp only [Act.put, List.setIfInBounds_toArray, List.set_cons_zero, List.set_cons_succ]
          refine wpAnyH_take (i := 22) (oi := _) (v := ?_) rfl (by kernel_rfl) (by kernel_rfl) (by kernel_rfl) (fun _ _ _ h => h) (Or.inl ⟨by rfl, ?_⟩) (by assumption) ?_
          rotate_left; (intro w hSw; (try dsimp only at hSw); go_simp; first | done | (with_reducible rfl) | fail "REGION: operation 22 is not decided")
          try simp only [Act.put, List.setIfInBounds_toArray, List.set_cons_zero, List.set_cons_succ]
          refine wpAnyH_take (i := 5) (oi := _) (v := ?_) rfl (by kernel_rfl) (by kernel_rfl) (by kernel_rfl) (fun _ _ _ h => h) (Or.inl ⟨by rfl, ?_⟩) (by assumption) ?_
          rotate_left; (intro w hSw; (try dsimp only at hSw); go_simp; first | done | (with_reducible rfl) | fail "REGION: operation 5 is not decided")
          try simp only [Act.put, List.setIfInBounds_toArray, List.set_cons_zero, List.set_cons_succ]
          refine wpAnyH_take (i := 11) (oi := _) (v := ?_) rfl (by kernel_rfl) (by kernel_rfl) (by kernel_rfl) (fun _ _ _ h => h) (Or.inl ⟨by rfl, ?_⟩) (by assumption) ?_
          rotate_left; (intro w hSw; (try dsimp only at hSw); go_simp; first | done | (with_reducible rfl) | fail "REGION: operation 11 is not decided")
          try simp only [Act.put, List.setIfInBounds_toArray, List.set_cons_zero, List.set_cons_succ]
          refine wpAnyH_take (i := 17) (oi := _) (v := ?_) rfl (by kernel_rfl) (by kernel_rfl) (by kernel_rfl) (fun _ _ _ h => h) (Or.inl ⟨by rfl, ?_⟩) (by assumption) ?_
          rotate_left; (intro w hSw; (try dsimp only at hSw); go_simp; first | done | (with_reducible rfl) | fail "REGION: operation 17 is not decided")
          try simp only [Act.put, List.setIfInBounds_toArray, List.set_cons_zero, List.set_cons_succ]
          refine wpAnyH_take (i := 23) (oi := _) (v := ?_) rfl (by kernel_rfl) (by kernel_rfl) (by kernel_rfl) (fun _ _ _ h => h) (Or.inl ⟨by rfl, ?_⟩) (by assumption) ?_
          rotate_left; (intro w hSw; (try dsimp only at hSw); go_simp; first | done | (with_reducible rfl) | fail "REGION: operation 23 is not decided")
          try simp only [Act.put, List.setIfInBounds_toArray, List.set_cons_zero, List.set_cons_succ]
          refine wpAnyH_take (i := 6) (oi := _) (v := ?_) rfl (by kernel_rfl) (by kernel_rfl) (by kernel_rfl) (fun _ _ _ h => h) (Or.inl ⟨by rfl, ?_⟩) (by assumption) ?_
          rotate_left; (intro w hSw; (try dsimp only at hSw); go_simp; first | done | (with_reducible rfl) | fail "REGION: operation 6 is not decided")
          try simp only [Act.put, List.setIfInBounds_toArray, List.set_cons_zero, List.set_cons_succ]
          refine wpAnyH_take (i := 12) (oi := _) (v := ?_) rfl (by kernel_rfl) (by kernel_rfl) (by kernel_rfl) (fun _ _ _ h => h) (Or.inl ⟨by rfl, ?_⟩) (by assumption) ?_
          rotate_left; (intro w hSw; (try dsimp only at hSw); go_simp; first | done | (with_reducible rfl) | fail "REGION: operation 12 is not decided")
          try simp only [Act.put, List.setIfInBounds_toArray, List.set_cons_zero, List.set_cons_succ]
          refine wpAnyH_take (i := 18) (oi := _) (v := ?_) rfl (by kernel_rfl) (by kernel_rfl) (by kernel_rfl) (fun _ _ _ h => h) (Or.inl ⟨by rfl, ?_⟩) (by assumption) ?_
          rotate_left; (intro w hSw; (try dsimp only at hSw); go_simp; first | done | (with_reducible rfl) | fail "REGION: operation 18 is not decided")
          try simp only [Act.put, List.setIfInBounds_toArray, List.set_cons_zero, List.set_cons_succ]
          refine wpAnyH_ready (rs := [24]) (by kernel_rfl) (by simp) ?_
          refine AllReadyH.cons (o := _) rfl (fun K hK => ?_) AllReadyH.nil
          go_simp
          refine hK.out _ _ ?_ (fun hHeld => ?_)
          · (first | go_keep | exact (World.cell?_of_block (hA.grown.block g (by simp; omega) (fun h => by have := own_ge hout g h.symm; omega))).trans hHeld)
          clear hK K
          try simp only [Act.put, List.setIfInBounds_toArray, List.set_cons_zero, List.set_cons_succ]
          refine wpAnyH_ready (rs := [25]) (by kernel_rfl) (by simp) ?_
          refine AllReadyH.cons (o := _) rfl (fun K hK => ?_) AllReadyH.nil
          (refine step_append_keep rfl _ _ _ rfl wo.heap.size 5 i0 _ 1 1 Tryz.underlying28 hi hz0 hz1 hz2 rfl (by decide) _ (4 * j) _ rfl (own_step hout _) ⟨wr.heap.size, 0, none⟩ 4 4 [_, _, _, _] rfl rfl (World.news_of_block (heap_alloc_new _ _)) (by simp [Value.oneCell']) (by omega) (by unfold maxLen; omega) (by omega) (by first | omega | (simp; omega)) ?_; intro g' cap' w1 hA)
          refine hK.out _ _ ?_ (fun hHeld => ?_)
          · (first | go_keep | exact (World.cell?_of_block (hA.grown.block g (by simp; omega) (fun h => by have := own_ge hout g h.symm; omega))).trans hHeld)
          clear hK K
          try simp only [Act.put, List.setIfInBounds_toArray, List.set_cons_zero, List.set_cons_succ]
          refine wpAnyH_take (i := 26) (oi := _) (v := ?_) rfl (by kernel_rfl) (by kernel_rfl) (by kernel_rfl) (fun _ _ _ h => h) (Or.inl ⟨by rfl, ?_⟩) (by assumption) ?_
          rotate_left; (intro w hSw; (try dsimp only at hSw); go_simp; first | done | (with_reducible rfl) | fail "REGION: operation 26 is not decided")
          try simp only [Act.put, List.setIfInBounds_toArray, List.set_cons_zero, List.set_cons_succ]
          refine wpAnyH_done (by kernel_rfl) ?_ _
          have hb1 : Below wo.heap.size wo w1 := Below.appended (by have hsz := (hbq).size; repeat' (first | exact hbq | refine Below.drew ?_ | refine below_drewN ?_ _ | refine Below.alloc ?_ (by first | omega | (simp; omega)) _)) hA (by simp; omega) (own_ge hout)
          go_wp2
          go_roundw
          case rel =>
            refine ⟨j + 1, by omega, by go_num, ?_, hb1⟩
            have hown1 := hA.own
            have e : (ShaS.outB (ShaS.regs (bytesOf all) N) (j + 1)).map (Value.int .u8) = (ShaS.outB (ShaS.regs (bytesOf all) N) j).map (Value.int .u8) ++ [.int .u8 (y / 16777216 % 256), .int .u8 (y / 65536 % 256), .int .u8 (y / 256 % 256), .int .u8 (y % 256)] := by
              rw [ShaS.outB_succ, List.map_append, ← HKN.out, ← Y.out]; rfl
            rw [e, show 4 * (j + 1) = 4 * j + 4 by omega]
            exact hown1
          case measure => simp [intOf]; omega
        · have hj8 : j = 8 := by omega
          subst hj8
          have hc := conv_own (P := Tryz.prog) wr 28 9 5 Tryz.underlying28 Tryz.underlying5 Tryz.underlying9 _ _ _ _ hout
          rw [← HR.out] at hc
          go_wp2
          go_ret
          exact ⟨rfl, hbel.trans (hbq.mono hsz)⟩
end Go.Proofs.YtjpdagfdcniphaaGreatDoor
