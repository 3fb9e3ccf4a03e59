/- net: Draw -/
import Derived.Test.YtjpdagfdcniphaaGreatDoorNetC
set_option linter.unusedVariables false
set_option linter.unusedSimpArgs false
namespace Go.Proofs.YtjpdagfdcniphaaGreatDoor
open Go.RowKit Go.Maps

/-- The text of which the k-th number of a seed is drawn. -/
def drawText (seed : ByteArray) (k : Nat) : ByteArray := seed ++ ⟨#[47]⟩ ++ ⟨(Lib.decDigits k).toArray⟩

set_option maxRecDepth 100000 in
set_option maxHeartbeats 4000000 in
theorem net_draw (B bn k d : Nat) (hd : d < 100) (seed : ByteArray) (hss : seed.size < 1000) (now last : Int) (es : List Value) (m : ByteArray → Option Int) (wire : Obj) (w : World) (h : NetAt B bn seed d now last es k m wire w) :
    Calls Tryz.prog 12 #[.pointer (some ⟨bn, 0, none⟩)] w fun e w' => e = .returned (.int .u32 (drawWord (drawText seed d))) ∧ NetAt B bn seed (d + 1 : Nat) now last es k m wire w' ∧ Below B w w' ∧ ArrKeep w w' := by
  have H := Lib.hid h
  obtain ⟨hB, ev, mo, mw, h1, _⟩ := h
  have c0 := h1.cell 0
  have c1 := h1.cell 1
  simp only [List.getElem?_cons_zero, List.getElem?_cons_succ] at c0 c1
  have hlt := h1.lt
  clear h1
  obtain ⟨ds, hds⟩ : ∃ ds : ByteArray, ds = ⟨(Lib.decDigits d).toArray⟩ := ⟨_, rfl⟩
  have hdsz : ds.size < 100 := by
    have e : ds.size = (Lib.decDigits d).length := by rw [hds]; simp [ByteArray.size]
    rw [e]
    by_cases h10 : d < 10
    · rw [Lib.decDigits_one h10]; simp
    · rw [Lib.decDigits_two h10 hd]; simp
  have hitoa : ∀ w : World, Calls Tryz.prog 29 #[.int .i64 (d : Int)] w fun e w' => e = .returned (.string ds) ∧ w' = w := by
    intro w; rw [hds]; exact Tryz.strconv_Itoa_small d hd w
  have HIT := Lib.hid hitoa
  have hcat1 : ∀ w : World, (Op.stringOp .add seed (⟨#[47]⟩ : ByteArray)).run Tryz.prog w = .ok (.string (seed ++ ⟨#[47]⟩)) w := fun w => run_string_add_sum w _ _ (by show seed.size + 1 ≤ _; omega)
  have hcat2 : ∀ w : World, (Op.stringOp .add (seed ++ (⟨#[47]⟩ : ByteArray)) ds).run Tryz.prog w = .ok (.string (drawText seed d)) w := fun w => by
    rw [drawText, ← hds]; exact run_string_add_sum w _ _ (by rw [ByteArray.size_append]; show seed.size + 1 + _ ≤ _; omega)
  obtain ⟨t, ht⟩ : ∃ t, Hid (t = drawText seed d) := ⟨_, Lib.hid rfl⟩
  rw [← ht.out] at hcat2 ⊢
  have htsz : t.size < 2000 := by rw [ht.out, drawText, ← hds, ByteArray.size_append, ByteArray.size_append]; show seed.size + 1 + _ < _; omega
  clear hitoa hds
  go_enter Tryz.func12, Tryz.ntmps12
  go_wp2_with fail
  rename_i hK0
  refine wp_region_noPanic ?_
  refine wp_region_held_drew (S := fun w' => w'.cell? ⟨bn, 0, none⟩ = some (.string seed) ∧ w'.cell? ⟨bn, 1, none⟩ = some (.int .i64 (d : Int))) (by kernel_rfl) ?_ (fun hHeld => ?_)
  · (first | go_keep | exact ⟨(hb2.cell (p := ⟨bn, 0, none⟩) hlt).trans c0, (hb2.cell (p := ⟨bn, 1, none⟩) hlt).trans c1⟩)
  refine wpAnyH_take (i := 0) (oi := _) (v := ?_) rfl (by kernel_rfl) (by kernel_rfl) (by kernel_rfl) (fun _ _ _ h => h) (Or.inl ⟨by rfl, ?_⟩) (by assumption) ?_
  rotate_left; (intro w hSw; (try dsimp only at hSw); go_simp; first | done | (with_reducible rfl) | fail "REGION: operation 0 is not decided")
  try simp only [Act.put, List.setIfInBounds_toArray, List.set_cons_zero, List.set_cons_succ]
  refine wpAnyH_take (i := 5) (oi := _) (v := ?_) rfl (by kernel_rfl) (by kernel_rfl) (by kernel_rfl) (fun _ _ _ h => h) (Or.inl ⟨by rfl, ?_⟩) (by assumption) ?_
  rotate_left; (intro w hSw; (try dsimp only at hSw); go_simp; first | done | (with_reducible rfl) | fail "REGION: operation 5 is not decided")
  try simp only [Act.put, List.setIfInBounds_toArray, List.set_cons_zero, List.set_cons_succ]
  refine wpAnyH_take (i := 1) (oi := _) (v := ?_) rfl (by kernel_rfl) (by kernel_rfl) (by kernel_rfl) (fun _ _ _ h => h) (Or.inl ⟨by rfl, ?_⟩) (by assumption) ?_
  rotate_left; (intro w hSw; (try dsimp only at hSw); go_simp; first | done | (with_reducible rfl) | fail "REGION: operation 1 is not decided")
  try simp only [Act.put, List.setIfInBounds_toArray, List.set_cons_zero, List.set_cons_succ]
  refine wpAnyH_take (i := 6) (oi := _) (v := ?_) rfl (by kernel_rfl) (by kernel_rfl) (by kernel_rfl) (fun _ _ _ h => h) (Or.inl ⟨by rfl, ?_⟩) (by assumption) ?_
  rotate_left; (intro w hSw; (try dsimp only at hSw); go_simp; first | done | (with_reducible rfl) | fail "REGION: operation 6 is not decided")
  try simp only [Act.put, List.setIfInBounds_toArray, List.set_cons_zero, List.set_cons_succ]
  refine wpAnyH_take (i := 2) (oi := _) (v := ?_) rfl (by kernel_rfl) (by kernel_rfl) (by kernel_rfl) (fun _ _ _ h => h) (Or.inl ⟨by rfl, ?_⟩) (by assumption) ?_
  rotate_left; (intro w hSw; (try dsimp only at hSw); go_simp; first | done | (with_reducible rfl) | fail "REGION: operation 2 is not decided")
  try simp only [Act.put, List.setIfInBounds_toArray, List.set_cons_zero, List.set_cons_succ]
  refine wpAnyH_take (i := 7) (oi := _) (v := ?_) rfl (by kernel_rfl) (by kernel_rfl) (by kernel_rfl) (fun _ _ _ h => h) (Or.inl ⟨by rfl, ?_⟩) (by assumption) ?_
  rotate_left; (intro w hSw; (try dsimp only at hSw); go_simp; first | done | (with_reducible rfl) | fail "REGION: operation 7 is not decided")
  try simp only [Act.put, List.setIfInBounds_toArray, List.set_cons_zero, List.set_cons_succ]
  refine wpAnyH_take (i := 3) (oi := _) (v := ?_) rfl (by kernel_rfl) (by kernel_rfl) (by kernel_rfl) (fun _ _ _ h => h) (Or.inl ⟨by rfl, ?_⟩) (by assumption) ?_
  rotate_left; (intro w hSw; (try dsimp only at hSw); go_simp; first | done | (with_reducible rfl) | fail "REGION: operation 3 is not decided")
  try simp only [Act.put, List.setIfInBounds_toArray, List.set_cons_zero, List.set_cons_succ]
  refine wpAnyH_take (i := 8) (oi := _) (v := ?_) rfl (by kernel_rfl) (by kernel_rfl) (by kernel_rfl) (fun _ _ _ h => h) (Or.inl ⟨by rfl, ?_⟩) (by assumption) ?_
  rotate_left; (intro w hSw; (try dsimp only at hSw); go_simp; first | done | (with_reducible rfl) | fail "REGION: operation 8 is not decided")
  try simp only [Act.put, List.setIfInBounds_toArray, List.set_cons_zero, List.set_cons_succ]
  refine wpAnyH_take (i := 4) (oi := _) (v := ?_) rfl (by kernel_rfl) (by kernel_rfl) (by kernel_rfl) (fun _ _ _ h => h) (Or.inl ⟨by rfl, ?_⟩) (by assumption) ?_
  rotate_left; (intro w hSw; (try dsimp only at hSw); go_simp; first | done | (with_reducible rfl) | fail "REGION: operation 4 is not decided")
  try simp only [Act.put, List.setIfInBounds_toArray, List.set_cons_zero, List.set_cons_succ]
  refine wpAnyH_ready (rs := [9]) (by kernel_rfl) (by simp) ?_
  refine AllReadyH.cons (o := _) rfl (fun K hK => ?_) AllReadyH.nil
  (go_simp; refine (HIT.out _).mono ?_; rintro e w1 ⟨rfl, rfl⟩)
  refine hK.out _ _ ?_ (fun hHeld => ?_)
  · (first | go_keep | exact ⟨(hb2.cell (p := ⟨bn, 0, none⟩) hlt).trans c0, (hb2.cell (p := ⟨bn, 1, none⟩) hlt).trans c1⟩)
  clear hK K
  try simp only [Act.put, List.setIfInBounds_toArray, List.set_cons_zero, List.set_cons_succ]
  refine wpAnyH_take (i := 10) (oi := _) (v := ?_) rfl (by kernel_rfl) (by kernel_rfl) (by kernel_rfl) (fun _ _ _ h => h) (Or.inl ⟨by rfl, ?_⟩) (by assumption) ?_
  rotate_left; (intro w hSw; (try dsimp only at hSw); go_simp; first | done | (with_reducible rfl) | fail "REGION: operation 10 is not decided")
  try simp only [Act.put, List.setIfInBounds_toArray, List.set_cons_zero, List.set_cons_succ]
  refine wpAnyH_ready (rs := [11]) (by kernel_rfl) (by simp) ?_
  refine AllReadyH.cons (o := _) rfl (fun K hK => ?_) AllReadyH.nil
  (go_simp; refine (sha_sum t (by omega) _).mono ?_; rintro e w2 ⟨rfl, hb2⟩)
  refine hK.out _ _ ?_ (fun hHeld => ?_)
  · (first | go_keep | exact ⟨(hb2.cell (p := ⟨bn, 0, none⟩) hlt).trans c0, (hb2.cell (p := ⟨bn, 1, none⟩) hlt).trans c1⟩)
  clear hK K
  try simp only [Act.put, List.setIfInBounds_toArray, List.set_cons_zero, List.set_cons_succ]
  refine wpAnyH_take (i := 12) (oi := _) (v := ?_) rfl (by kernel_rfl) (by kernel_rfl) (by kernel_rfl) (fun _ _ _ h => h) (Or.inl ⟨by rfl, ?_⟩) (by assumption) ?_
  rotate_left; (intro w hSw; (try dsimp only at hSw); go_simp; first | done | (with_reducible rfl) | fail "REGION: operation 12 is not decided")
  try simp only [Act.put, List.setIfInBounds_toArray, List.set_cons_zero, List.set_cons_succ]
  refine wpAnyH_done (by kernel_rfl) ?_ _
  refine NoPanic.normal ?_
  refine hK0 _ _ ?_
  clear hK0
  obtain ⟨dg, hdg⟩ : ∃ dg : ByteArray, dg = strOfNums (ShaS.sum (bytesOf t)) := ⟨_, rfl⟩
  rw [← hdg]
  have hdl : dg.size = 32 := by rw [hdg, strOfNums_size, ShaS.sum_length]
  have HDG := Lib.hid hdg
  clear hdg
  have hNet := H.out.drew.below hb2
  have hbB : Below B w w2 := (Below.drew (Below.refl B w)).trans (hb2.mono (by have := H.out.lt; show B ≤ w.heap.size; omega))
  have hak0 : ArrKeep w w2 := ArrKeep.of_below ((Below.drew (Below.refl w.heap.size w)).trans hb2)
  clear c0 c1 hcat1 hcat2 hb2 HIT hlt
  obtain ⟨c0, c1⟩ := hHeld
  try simp only [Act.put, List.setIfInBounds_toArray, List.set_cons_zero, List.set_cons_succ]
  have hlt := hNet.lt
  obtain ⟨hB2, ev, mo, mw, h1, hrest⟩ := hNet
  have f1 := h1.frozen 1
  have HR := Lib.hid hrest
  clear hrest
  have hp4 : (dg.extract 0 4).size = 4 := by rw [ByteArray.size_extract, hdl]; rfl
  have hconv : ∀ w : World, (convert 9 28 (.string (dg.extract 0 4))).run Tryz.prog w = .ok (.slice (some ⟨w.heap.size, 0, none⟩) 4 (grownCap w 4 0 5))
      (w.drew.alloc (.cells (bytesRow (dg.extract 0 4) (grownCap w 4 0 5)) 5 ((bytesRow (dg.extract 0 4) (grownCap w 4 0 5)).size, (bytesRow (dg.extract 0 4) (grownCap w 4 0 5)).size + 1))) := fun w => by
    have := run_bytes_of_string (P := Tryz.prog) w _ _ _ (dg.extract 0 4) Tryz.underlying9 Tryz.underlying28 Tryz.underlying5
    rw [hp4] at this
    exact this
  go_wp2_with fail
  have hs0 : (w2.setCell ⟨bn, 1, none⟩ (.int .i64 ((d : Int) + 1))).heap.size = w2.heap.size := by simp [World.setCell]
  have hN1 : NetAt B bn seed ((d + 1 : Nat) : Int) now last es k m wire (w2.setCell ⟨bn, 1, none⟩ (.int .i64 ((d : Int) + 1))) := by
    obtain ⟨g2, g3, g4, g5, g6, g7, g8, g9⟩ := HR.out
    refine ⟨hB2, ev, mo, mw, by have := h1.set 1 (.int .i64 ((d : Int) + 1)); exact this, g2, g3, ?_, ?_, g6, g7, ?_, g9⟩
    · exact g4.keeps (Keeps.setCell (M := (· = bn)) (Keeps.refl _ w2.heap.size w2) (p := ⟨bn, 1, none⟩) (.inl rfl) _) g4.lt (fun e => g4.not_arr h1 e)
    · rw [Below.heap_setCell _ _ _ _ (fun e => g7 e.symm)]; exact g5
    · exact own_keeps g8 (Keeps.setCell (M := (· = bn)) (Keeps.refl _ w2.heap.size w2) (p := ⟨bn, 1, none⟩) (.inl rfl) _) (fun b hb => ⟨own_lt g8 b hb, fun e => own_arr_ne (T := 64) (by decide) h1 g8 (by rw [hb, e])⟩)
  have hb1 : Below B w (w2.setCell ⟨bn, 1, none⟩ (.int .i64 ((d : Int) + 1))) := hbB.setCell hB2 _
  have hak1 : ArrKeep w (w2.setCell ⟨bn, 1, none⟩ (.int .i64 ((d : Int) + 1))) := hak0.setCell h1 1 _
  clear hak0
  have hB3 : B ≤ (w2.setCell ⟨bn, 1, none⟩ (.int .i64 ((d : Int) + 1))).heap.size := by omega
  rw [← hs0]
  generalize w2.setCell ⟨bn, 1, none⟩ (.int .i64 ((d : Int) + 1)) = w3 at *
  have hcell := fun j (hj : j < 4) => bytesRow_cell w3 5 (dg.extract 0 4) (grownCap w3 4 0 5) ((bytesRow (dg.extract 0 4) (grownCap w3 4 0 5)).size, (bytesRow (dg.extract 0 4) (grownCap w3 4 0 5)).size + 1) j (by rw [hp4]; exact hj)
  have hN2 := hN1.drew.below ((Below.refl w3.heap.size w3.drew).alloc (Nat.le_refl _) (.cells (bytesRow (dg.extract 0 4) (grownCap w3 4 0 5)) 5 ((bytesRow (dg.extract 0 4) (grownCap w3 4 0 5)).size, (bytesRow (dg.extract 0 4) (grownCap w3 4 0 5)).size + 1)))
  have hb4 := (Below.drew hb1).alloc hB3 (.cells (bytesRow (dg.extract 0 4) (grownCap w3 4 0 5)) 5 ((bytesRow (dg.extract 0 4) (grownCap w3 4 0 5)).size, (bytesRow (dg.extract 0 4) (grownCap w3 4 0 5)).size + 1))
  refine hide_world (C := fun v => Code.wp _ _ _ _ v) (P := fun v => (∀ j, j < 4 → v.cell? ⟨w3.heap.size, j, none⟩ = some (.int .u8 ((bytesOf (dg.extract 0 4)).getD j 0))) ∧ NetAt B bn seed ((d + 1 : Nat) : Int) now last es k m wire v ∧ Below B w v ∧ ArrKeep w v) ⟨hcell, hN2, hb4, hak1.drew.trans (.of_below ((Below.refl w3.heap.size w3.drew).alloc (Nat.le_refl _) _))⟩ ?_
  rintro w4 ⟨hc4, hN4, hb4, hak4⟩
  obtain ⟨bs, hbs⟩ : ∃ bs, bs = bytesOf (dg.extract 0 4) := ⟨_, rfl⟩
  rw [← hbs] at hc4
  have hby : ShaS.Bytes bs := by rw [hbs]; exact bytes_ok _
  have hword : ShaS.word bs 0 = drawWord t := by
    rw [hbs, bytesOf_extract, drawWord, HDG.out, bytesOf_strOfNums (fun x hx => ShaS.sum_bytes _ x hx)]
    simp [ShaS.word, List.getD_eq_getElem?_getD, List.getElem?_take]
  have HW := Lib.hid hword
  have HC := Lib.hid hc4
  have HBY := Lib.hid hby
  clear hword hc4 hby hbs hcell hN2 hN1 hb1 hs0 hak1
  generalize w3.heap.size = gb at *
  generalize grownCap w3 4 0 5 = cap at *
  go_wp2_with fail
  go_loopw [4, 30] (fun x i wr => ∃ j : Nat, j ≤ 4 ∧ i = .int .i64 (j : Int) ∧ x = .int .u32 (ShaS.pw bs 0 j) ∧ wr = w4) (fun _ i _ => (4 - intOf i).toNat)
  case atStart => exact ⟨0, by omega, rfl, rfl, rfl⟩
  case round =>
    obtain ⟨j, hj, rfl, rfl, rfl⟩ := hrel
    by_cases hjl : j < 4
    · obtain ⟨y, Y⟩ : ∃ y, Hid (y = ShaS.pw bs 0 j) := ⟨_, Lib.hid rfl⟩
      have hyr := ShaS.pw_small HBY.out 0 j hjl
      rw [← Y.out] at hyr ⊢
      obtain ⟨y0, y1⟩ := hyr
      obtain ⟨b, hb⟩ : ∃ b, b = bs.getD j 0 := ⟨_, rfl⟩
      have hcb := HC.out j hjl
      have hbr := ShaS.getD_byte HBY.out j
      rw [← hb] at hcb hbr
      obtain ⟨b0, b1⟩ := hbr
      have HB := Lib.hid hb
      clear hb
      have hjI : (j : Int) < 4 := by omega
      go_wp2

      go_roundw
      case rel =>
        refine ⟨j + 1, by omega, by go_num, ?_, trivial⟩
        rw [ShaS.pw_step y b y0 y1 b0 b1, Y.out, HB.out]
        simp [ShaS.pw]
      case measure => simp [intOf]; omega
    · have hj4 : j = 4 := by omega
      subst hj4
      rw [ShaS.pw_all, HW.out]
      go_wp2
      go_ret
      exact ⟨rfl, hN4, hb4, hak4⟩

theorem drawText_zero (seed : ByteArray) : drawText seed 0 = seed ++ ⟨#[47]⟩ ++ ⟨#[48]⟩ := by
  unfold drawText
  rw [Lib.decDigits_one (by decide)]
  rfl
end Go.Proofs.YtjpdagfdcniphaaGreatDoor
