/- SHA-256: the program's block, in place -/
import Derived.Test.YtjpdagfdcniphaaGreatDoorShaH
import Derived.Laws.CopyOwn
set_option linter.unusedVariables false
set_option linter.unusedSimpArgs false
namespace Go.Proofs.YtjpdagfdcniphaaGreatDoor
open Go.RowKit

theorem wrap_u32 (x : Int) : IntKind.u32.wrap x = x % 4294967296 := rfl
def zeros8 : List Value := List.replicate 8 (.int .u32 0)

set_option maxRecDepth 100000 in
set_option maxHeartbeats 4000000 in
theorem sha_block (br g off cap : Nat) (r bs : List Int) (hr : r.length = 8) (hrr : ∀ x ∈ r, ShaS.W32 x) (hbs : ShaS.Bytes bs) (hl : bs.length = 64) (w : World)
    (hR : ArrAt w br 182 (r.map (.int .u32))) (hc : ∀ j, j < 64 → w.cell? ⟨g, off + j, none⟩ = some (.int .u8 (bs.getD j 0))) :
    Calls Tryz.prog 85 #[.pointer (some ⟨br, 0, none⟩), .slice (some ⟨g, off, none⟩) 64 cap] w fun e w' => e = .returned (.tuple #[]) ∧ ArrAt w' br 182 ((ShaS.block r bs).map (.int .u32)) ∧ Keeps (· = br) w.heap.size w w' := by
  have hbr := hR.lt
  obtain ⟨W, HW⟩ : ∃ W, Hid (W = ShaS.wl bs 64) := ⟨_, Lib.hid rfl⟩
  have hWl : W.length = 64 := by rw [HW.out]; simp [ShaS.wl_length]
  have HWL := Lib.hid hWl
  clear hWl
  go_enter Tryz.func85, Tryz.ntmps85
  go_upto_region 0 with fail
  rename_i hK0
  refine wp_region_list ?_
  (refine wpList_plain rfl fun K hK => ?_; go_simp; refine hK _ _ ?_; clear hK K; (try simp only [Act.put, List.setIfInBounds_toArray, List.set_cons_zero, List.set_cons_succ]))
  (refine wpList_plain rfl fun K hK => ?_; go_simp; refine (sha_schedule g off cap bs hbs hl _ hc).mono ?_; rintro e w1 ⟨rfl, hb1⟩; rw [← HW.out]; refine hK _ _ ?_; clear hK K; (try simp only [Act.put, List.setIfInBounds_toArray, List.set_cons_zero, List.set_cons_succ]))
  (refine wpList_plain rfl fun K hK => ?_; go_simp; refine (sha_constants _).mono ?_; rintro e w2 ⟨rfl, hb2⟩; refine hK _ _ ?_; clear hK K; (try simp only [Act.put, List.setIfInBounds_toArray, List.set_cons_zero, List.set_cons_succ]))
  have hb12 : Below w.heap.size w w2 := hb1.trans (hb2.mono hb1.size)
  have hs12 := hb12.size
  (refine wpList_plain rfl fun K hK => ?_; go_simp; refine hK _ _ ?_; clear hK K; (try simp only [Act.put, List.setIfInBounds_toArray, List.set_cons_zero, List.set_cons_succ]))
  refine hide_alloc (C := fun v => wpList _ _ _ _ _ v) 252 zeros64 ?_
  intro w3 z1 hb3 hs3
  (refine wpList_plain rfl fun K hK => ?_; go_simp; refine hK _ _ ?_; clear hK K; (try simp only [Act.put, List.setIfInBounds_toArray, List.set_cons_zero, List.set_cons_succ]))
  refine hide_alloc (C := fun v => wpList _ _ _ _ _ v) 252 zeros64 ?_
  rw [hs3]
  intro w4 z2 hb4 hs4
  replace z1 := z1.below hb4 (by omega)
  refine wpList_store_arr rfl 252 _ _ rfl w2.heap.size 252 zeros64 (W.map (.int .u32)) rfl rfl z1 (by simp [HWL.out, zeros64]) (by rw [size_arr64]; simp [HWL.out]) int_one ?_
  intro w5 z1 hk5 hs5
  replace z2 := z2.keeps hk5 (by omega) (by simp)
  refine wpList_store_arr rfl 252 _ _ rfl (w2.heap.size + 1) 252 zeros64 (ShaS.ks.map (.int .u32)) rfl rfl z2 rfl (by rw [size_arr64]; rfl) int_one ?_
  intro w6 z2 hk6 hs6
  replace z1 := z1.keeps hk6 (by omega) (by simp)
  have hb6 : Below w.heap.size w w6 := by
    have a1 := hb3.trans (hb4.mono (by omega))
    have a2 := a1.trans (hk5.fresh (by omega) (Nat.le_refl _))
    exact hb12.trans ((a2.trans (hk6.fresh (by omega) (by omega))).mono hs12)
  have hsz6 : w6.heap.size = w2.heap.size + 2 := by omega
  clear hb12 hb1 hb2 hb3 hs3 hb4 hs4 hk5 hs5 hk6 hs6
  replace hR := hR.below hb6 hbr
  refine wpList_nil ?_
  refine hK0 _ _ ?_
  clear hK0
  go_upto_region 1 with fail
  rename_i hK0
  refine wp_region_list ?_
  (refine wpList_plain rfl fun K hK => ?_; go_simp; refine hK _ _ ?_; clear hK K; (try simp only [Act.put, List.setIfInBounds_toArray, List.set_cons_zero, List.set_cons_succ]))
  (refine wpList_plain rfl fun K hK => ?_; go_simp; refine hK _ _ ?_; clear hK K; (try simp only [Act.put, List.setIfInBounds_toArray, List.set_cons_zero, List.set_cons_succ]))
  refine wpList_load_row rfl 182 _ rfl br rfl 182 _ (0, 0) _ hR under_regs rfl (by rw [size_regs]; simp [hr]) ?_
  (refine wpList_plain rfl fun K hK => ?_; go_simp; refine hK _ _ ?_; clear hK K; (try simp only [Act.put, List.setIfInBounds_toArray, List.set_cons_zero, List.set_cons_succ]))
  refine hide_alloc (C := fun v => wpList _ _ _ _ _ v) 182 zeros8 ?_
  rw [hsz6]
  intro w7 z3 hb7 hs7
  refine wpList_store_arr rfl 182 _ _ rfl (w2.heap.size + 2) 182 zeros8 (r.map (.int .u32)) rfl rfl z3 (by simp [hr, zeros8]) (by rw [size_regs]; simp [hr]) int_one ?_
  intro w8 z3 hk8 hs8
  replace z1 := (z1.below hb7 (by omega)).keeps hk8 (by omega) (by simp)
  replace z2 := (z2.below hb7 (by omega)).keeps hk8 (by omega) (by simp)
  replace hR := (hR.below hb7 (by omega)).keeps hk8 (by omega) (by omega)
  have hb8 : Below w.heap.size w w8 := hb6.trans ((hb7.mono (by omega)).trans (hk8.fresh (by omega) (by omega)))
  refine wpList_nil ?_
  refine hK0 _ _ ?_
  clear hK0 hb7 hs7 hk8 hs8 hb6 hsz6
  try simp only [Act.put, List.setIfInBounds_toArray, List.set_cons_zero, List.set_cons_succ]
  have hg : g < w.heap.size := block_lt_of_cell (hc 0 (by omega))
  clear hc
  have HSL : ∀ t, (ShaS.rounds r W t).length = 8 := ShaS.rounds_length hr W
  have HSLh := Lib.hid HSL
  clear HSL
  have HSR : ∀ t, ∀ x ∈ ShaS.rounds r W t, ShaS.W32 x := ShaS.rounds_range hrr W
  have HSRh := Lib.hid HSR
  clear HSR
  have HRL := Lib.hid hr
  have HRR := Lib.hid hrr
  clear hr hrr
  have hfin : ∀ t, 64 ≤ t → t ≤ 64 → ShaS.block r bs = ShaS.addTo r (ShaS.rounds r W t) 8 := by
    intro t h1 h2
    obtain rfl : t = 64 := by omega
    rw [ShaS.addTo_all r _ HRL.out, HW.out]; simp only [ShaS.block, Int.add_comm]
  have HFIN := Lib.hid hfin
  clear hfin
  generalize w2.heap.size = B at *
  clear HW
  go_wp2_with fail
  go_loopw [20] (fun i wr => ∃ t : Nat, t ≤ 64 ∧ i = .int .i64 (t : Int) ∧ ArrAt wr B 252 (W.map (.int .u32)) ∧ ArrAt wr (B + 1) 252 (ShaS.ks.map (.int .u32)) ∧ ArrAt wr (B + 2) 182 ((ShaS.rounds r W t).map (.int .u32)) ∧ ArrAt wr br 182 (r.map (.int .u32)) ∧ Below w.heap.size w wr) (fun i _ => (64 - intOf i).toNat)
  case atStart => exact ⟨0, by omega, rfl, z1, z2, z3, hR, hb8⟩
  case round =>
    clear z1 z2 z3 hR hb8
    obtain ⟨t, ht, rfl, z1, z2, z3, hR, hb8⟩ := hrel
    by_cases hlt : t < 64
    · have hl8 := HSLh.out t
      have hlw := HWL.out
      obtain ⟨y0, Y0, c0, m0⟩ := z3.num 0 (by omega)
      obtain ⟨y1, Y1, c1, m1⟩ := z3.num 1 (by omega)
      obtain ⟨y2, Y2, c2, m2⟩ := z3.num 2 (by omega)
      obtain ⟨y3, Y3, c3, m3⟩ := z3.num 3 (by omega)
      obtain ⟨y4, Y4, c4, m4⟩ := z3.num 4 (by omega)
      obtain ⟨y5, Y5, c5, m5⟩ := z3.num 5 (by omega)
      obtain ⟨y6, Y6, c6, m6⟩ := z3.num 6 (by omega)
      obtain ⟨y7, Y7, c7, m7⟩ := z3.num 7 (by omega)
      obtain ⟨yw, YW, cw', mw⟩ := z1.num t (by omega)
      obtain ⟨yk, YK, ck', mk⟩ := z2.num t (by simp [ShaS.ks]; omega)
      obtain ⟨l0, u0⟩ := HSRh.out t _ m0
      obtain ⟨l4, u4⟩ := HSRh.out t _ m4
      have htI : (t : Int) < 64 := by omega
      clear hl8 hlw
      go_wp2_with fail
      refine wp_region_still_lit (by kernel_rfl) (by kernel_rfl) ?_
      repeat still_step
      refine wpStill_nil ?_
      change Exit.then _ _ _ _ (World.drew _)
      rename_i hK1
      refine hK1 _ _ ?_
      clear hK1
      replace z1 := z1.drew
      replace z2 := z2.drew
      replace z3 := z3.drew
      replace hR := hR.drew
      replace hb8 := Below.drew hb8
      replace c0 : wr.drew.cell? _ = _ := c0
      replace c1 : wr.drew.cell? _ = _ := c1
      replace c2 : wr.drew.cell? _ = _ := c2
      replace c3 : wr.drew.cell? _ = _ := c3
      replace c4 : wr.drew.cell? _ = _ := c4
      replace c5 : wr.drew.cell? _ = _ := c5
      replace c6 : wr.drew.cell? _ = _ := c6
      replace c7 : wr.drew.cell? _ = _ := c7
      replace cw' : wr.drew.cell? _ = _ := cw'
      replace ck' : wr.drew.cell? _ = _ := ck'
      generalize wr.drew = wa at *
      go_wp2_with fail
      refine wp_region_still_lit (by kernel_rfl) (by kernel_rfl) ?_
      repeat still_step
      still_call (sha_turn _ _ (by assumption) (by assumption) (by omega) (by omega) _)
      repeat still_step
      still_call (sha_turn _ _ (by assumption) (by assumption) (by omega) (by omega) _)
      repeat still_step
      still_call (sha_turn _ _ (by assumption) (by assumption) (by omega) (by omega) _)
      repeat still_step
      refine wpStill_nil ?_
      change Exit.then _ _ _ _ (World.drew _)
      rename_i hK1
      refine hK1 _ _ ?_
      clear hK1
      replace z1 := z1.drew
      replace z2 := z2.drew
      replace z3 := z3.drew
      replace hR := hR.drew
      replace hb8 := Below.drew hb8
      replace c0 : wa.drew.cell? _ = _ := c0
      replace c1 : wa.drew.cell? _ = _ := c1
      replace c2 : wa.drew.cell? _ = _ := c2
      replace c3 : wa.drew.cell? _ = _ := c3
      replace c4 : wa.drew.cell? _ = _ := c4
      replace c5 : wa.drew.cell? _ = _ := c5
      replace c6 : wa.drew.cell? _ = _ := c6
      replace c7 : wa.drew.cell? _ = _ := c7
      generalize wa.drew = wb at *
      go_wp2_with fail
      refine wp_region_still_lit (by kernel_rfl) (by kernel_rfl) ?_
      repeat still_step
      still_call (sha_turn _ _ (by assumption) (by assumption) (by omega) (by omega) _)
      repeat still_step
      still_call (sha_turn _ _ (by assumption) (by assumption) (by omega) (by omega) _)
      repeat still_step
      still_call (sha_turn _ _ (by assumption) (by assumption) (by omega) (by omega) _)
      repeat still_step
      refine wpStill_nil ?_
      change Exit.then _ _ _ _ (World.drew _)
      rename_i hK1
      refine hK1 _ _ ?_
      clear hK1
      replace z1 := z1.drew
      replace z2 := z2.drew
      replace z3 := z3.drew
      replace hR := hR.drew
      replace hb8 := Below.drew hb8
      replace c0 : wb.drew.cell? _ = _ := c0
      replace c1 : wb.drew.cell? _ = _ := c1
      replace c2 : wb.drew.cell? _ = _ := c2
      replace c3 : wb.drew.cell? _ = _ := c3
      replace c4 : wb.drew.cell? _ = _ := c4
      replace c5 : wb.drew.cell? _ = _ := c5
      replace c6 : wb.drew.cell? _ = _ := c6
      generalize wb.drew = wd at *
      go_wp2_with fail
      refine wp_region_still_tail 2 (by kernel_rfl) (by kernel_rfl) ?_
      simp only [List.take_succ_cons, List.take_zero, List.drop_succ_cons, List.drop_zero]
      repeat still_step
      refine wpStill_nil ?_
      change wpList _ _ _ _ _ wd.drew
      generalize hx1 : IntKind.u32.wrap (_ + yw) = x1
      generalize hx2 : IntKind.u32.wrap (_ + bits .xor .u32 _ (bits .and .u32 y1 y2)) = x2
      have hrow : ShaS.rounds r W t = [y0, y1, y2, y3, y4, y5, y6, y7] := by
        have h8 := HSLh.out t
        rw [Y0.out, Y1.out, Y2.out, Y3.out, Y4.out, Y5.out, Y6.out, Y7.out]
        generalize ShaS.rounds r W t = l at h8
        match l, h8 with
        | [a, b, c, d, e, f, g, i], _ => rfl
      have hnext : ShaS.rounds r W (t + 1) = [IntKind.u32.wrap (x1 + x2), y0, y1, y2, IntKind.u32.wrap (y3 + x1), y4, y5, y6] := by
        show ShaS.rnd (ShaS.rounds r W t) (ShaS.ks.getD t 0) (W.getD t 0) = _
        rw [hrow, ← YW.out, ← YK.out, ← hx1, ← hx2]
        simp [ShaS.rnd, ShaS.one, ShaS.two, ShaS.oneX, ShaS.oneY, ShaS.twoX, ShaS.twoY, wrap_u32, Int.add_assoc]
      rw [hrow] at z3
      have HN := Lib.hid hnext
      clear hnext hrow hx1 hx2 Y0 Y1 Y2 Y3 Y4 Y5 Y6 Y7 YW YK
      replace z1 := z1.drew
      replace z2 := z2.drew
      replace z3 := z3.drew
      replace hR := hR.drew
      replace hb8 := Below.drew hb8
      clear c0 c1 c2 c3 c4 c5 c6 c7 cw' ck'
      generalize wd.drew = we at *
      refine wpList_copy_splice rfl (.tmp 81) (.tmp 82) 112 112 rfl 34 Tryz.underlying112 (by kernel_rfl) _ _ _ _ _ _ rfl rfl (B + 2) 1 _ 182 z3 ([y0, y1, y2, y3, y4, y5, y6].map (.int .u32)) rfl (fun _ => ⟨rfl, _, rfl, ?hpos⟩) (by simp) int_one (B + 2) we (Below.refl _ _) (Nat.le_refl _) ?_
      case hpos =>
        intro j v hj
        rw [Addr.add_lit, Nat.zero_add, z3.cell j]
        match j, hj with
        | 0, hj | 1, hj | 2, hj | 3, hj | 4, hj | 5, hj | 6, hj => exact hj
        | k + 7, hj => simp at hj
      intro wf hz3 hbf
      refine wpList_nil ?_
      rename_i hK1
      refine hK1 _ _ ?_
      clear hK1
      try simp only [Act.put, List.setIfInBounds_toArray, List.set_cons_zero, List.set_cons_succ]
      have e3 : ArrAt wf (B + 2) 182 ([y0, y0, y1, y2, y3, y4, y5, y6].map (.int .u32)) := hz3.out
      replace z1 := z1.below hbf (by omega)
      replace z2 := z2.below hbf (by omega)
      replace hR := hR.below hbf (by omega)
      replace hb8 := hb8.trans (hbf.mono (by omega))
      clear hz3 hbf z3
      have f0 := e3.frozen 0
      have f4 := e3.frozen 4
      have c0 : wf.cell? ⟨B + 2, 0, none⟩ = some (.int .u32 y0) := e3.cell 0
      have c4 : wf.cell? ⟨B + 2, 4, none⟩ = some (.int .u32 y3) := e3.cell 4
      go_wp2
      go_roundw
      case rel =>
        refine ⟨t + 1, by omega, by go_num, (z1.other _ _ (by simp)).other _ _ (by simp), (z2.other _ _ (by simp)).other _ _ (by simp), ?_, (hR.other _ _ (by simp; omega)).other _ _ (by simp; omega), (hb8.setCell (by simp; omega) _).setCell (by simp; omega) _⟩
        rw [HN.out]
        exact (e3.set 4 _).set 0 _
      case measure => simp [intOf]; omega
    · have hfin := HFIN.out t (by omega) ht
      have h64 : t = 64 := by omega
      subst h64
      obtain ⟨S, HSe⟩ : ∃ S, Hid (S = ShaS.rounds r W 64) := ⟨_, Lib.hid rfl⟩
      rw [← HSe.out] at z3 hfin
      have hS8 : S.length = 8 := by rw [HSe.out]; exact HSLh.out 64
      have HS8 := Lib.hid hS8
      have HF := Lib.hid hfin
      clear hS8 hfin z1 z2
      have hR0 : ArrAt wr br 182 ((ShaS.addTo r S 0).map (.int .u32)) := hR
      clear hR
      go_wp2_with (refine wpList_load_row rfl 182 _ rfl (B + 2) rfl 182 _ (0, 0) _ z3 under_regs rfl (by rw [size_regs]; simp [HS8.out]) ?_)
      clear z3
      go_loopw [95] (fun i wr => ∃ j : Nat, j ≤ 8 ∧ i = .int .i64 (j : Int) ∧ ArrAt wr br 182 ((ShaS.addTo r S j).map (.int .u32)) ∧ Keeps (· = br) w.heap.size w wr) (fun i _ => (8 - intOf i).toNat)
      case atStart => exact ⟨0, by omega, rfl, hR0, Keeps.of_below hb8⟩
      case round =>
        clear hR0 hb8
        obtain ⟨j, hj, rfl, hR, hk⟩ := hrel
        by_cases hlt : j < 8
        · have hS8 := HS8.out
          have hr8 := HRL.out
          obtain ⟨y, Y, cy, my⟩ := hR.num j (by rw [ShaS.addTo_length]; omega)
          have hz : S[j]? = some (S.getD j 0) := by rw [List.getD_eq_getElem?_getD, List.getElem?_eq_getElem (by omega)]; rfl
          obtain ⟨z, Z⟩ : ∃ z, Hid (z = S.getD j 0) := ⟨_, Lib.hid rfl⟩
          rw [← Z.out] at hz
          have hf := hR.frozen j
          have hjI : (j : Int) < 8 := by omega
          have hix := run_index_row (P := Tryz.prog) (k := .u32) wr 182 34 8 j z under_regs (by kernel_rfl) (by simp [isAgg, run_underlying Tryz.underlying34]) hlt hz
          go_wp2_with fail
          go_still_tail 9, (by kernel_rfl)
          change wpList _ _ _ _ _ wr.drew
          go_wp2
          go_roundw
          case rel =>
            refine ⟨j + 1, by omega, by go_num, ?_, hk.drew.setCell (.inl rfl) _⟩
            rw [show ShaS.addTo r S (j + 1) = (ShaS.addTo r S j).set j ((r.getD j 0 + S.getD j 0) % 4294967296) from rfl, ← ShaS.addTo_later r S j j (Nat.le_refl _), ← Y.out, ← Z.out, List.map_set]
            exact hR.drew.set j _
          case measure => simp [intOf]; omega
        · have h8 : j = 8 := by omega
          subst h8
          rw [← HF.out] at hR
          go_wp2
          exact bodyPost_end (results_none rfl _ _ _) rfl ⟨rfl, hR, hk⟩
end Go.Proofs.YtjpdagfdcniphaaGreatDoor
