/- SHA-256: the program's Hash, and its Sum -/
import Derived.Test.YtjpdagfdcniphaaGreatDoorShaI
import Derived.Test.YtjpdagfdcniphaaGreatDoorShaK
import Derived.Laws.IdiomStrings
set_option linter.unusedVariables false
set_option linter.unusedSimpArgs false
namespace Go.Proofs.YtjpdagfdcniphaaGreatDoor
open Go.RowKit

/-- '[]byte(s)': a new row that holds the bytes. -/
theorem bytesRow_cell (w : World) (e : TypeId) (s : ByteArray) (c : Nat) (fz : Nat × Nat) (j : Nat) (hj : j < s.size) :
    (w.drew.alloc (.cells (bytesRow s c) e fz)).cell? ⟨w.heap.size, j, none⟩ = some (.int .u8 ((bytesOf s).getD j 0)) := by
  have h : (w.drew.alloc (.cells (bytesRow s c) e fz)).heap[w.heap.size]? = some (.cells (bytesRow s c) e fz) := heap_alloc_new w.drew _
  rw [Lib.cell_of_heap h]
  unfold bytesRow bytesOf
  have hj' : j < s.data.size := hj
  rw [Array.getElem?_append_left (by simpa using hj'), List.getD_eq_getElem?_getD]
  simp [Array.getElem?_eq_getElem hj']

set_option maxRecDepth 100000 in
theorem hash_write (B b : Nat) (l : List Int) (s : ByteArray) (w : World) (h : Bld 109 B b l w) (hl : l.length + s.size ≤ 140737488355328) (hBw : B ≤ w.heap.size) :
    Calls Tryz.prog 50 #[.pointer (some ⟨b, 0, none⟩), .string s] w fun e w' => e = .returned (.tuple #[]) ∧ Bld 109 B b (l ++ bytesOf s) w' ∧ Below B w w' := by
  go_enter Tryz.func50, Tryz.ntmps50
  go_wp2_with ((go_at_call 80; refine (b_writeString _ asHash B b l s _ h hl hBw).mono ?_))
  rintro e w1 ⟨rfl, h1, h2⟩
  go_wp2
  go_end0
  exact ⟨rfl, h1, h2⟩

set_option maxRecDepth 100000 in
set_option maxHeartbeats 4000000 in
theorem hash_sum (B b : Nat) (l : List Int) (w : World) (h : Bld 109 B b l w) (hl : l.length < 100000000) (hBw : B ≤ w.heap.size) :
    Calls Tryz.prog 51 #[.pointer (some ⟨b, 0, none⟩)] w fun e w' => e = .returned (.string (strOfNums (ShaS.sum l))) ∧ Below B w w' := by
  obtain ⟨i0, hi, hz0, hz1, hz2⟩ := info_parts info_u8
  have hal : AllBytes l := by obtain ⟨_, _, _, _, _, _, _, _, hal⟩ := h; exact hal
  obtain ⟨all, hall⟩ : ∃ all : ByteArray, all = strOfNums l ++ strOfNums (ShaS.pad l.length) := ⟨_, rfl⟩
  have hasz : all.size = l.length + (ShaS.padZ l.length + 9) := by rw [hall, ByteArray.size_append, strOfNums_size, strOfNums_size, ShaS.pad_length]
  have hamod : all.size % 64 = 0 := by have := ShaS.pad_whole l.length; rw [ShaS.pad_length] at this; omega
  have hpz : ShaS.padZ l.length < 64 := by unfold ShaS.padZ; omega
  have hb : all.size < 200000000 := by omega
  obtain ⟨N, hN⟩ : ∃ N, all.size = 64 * N := ⟨all.size / 64, by omega⟩
  have HN := Lib.hid hN
  have HR : Hid (ShaS.sum l = ShaS.outB (ShaS.regs (bytesOf all) N) 8) := by
    show _ = _
    unfold ShaS.sum
    have e : l ++ ShaS.pad l.length = bytesOf all := by
      rw [hall, bytesOf_append, bytesOf_strOfNums (fun x hx => ShaS.pad_bytes _ x hx), bytesOf_strOfNums hal]
    rw [e, bytesOf_length, hN, Nat.mul_div_cancel_left _ (by decide)]
  have hcat : ∀ w : World, (Op.stringOp .add (strOfNums l) (strOfNums (ShaS.pad l.length))).run Tryz.prog w = .ok (.string all) w := fun w => by
    rw [hall]; exact run_string_add_sum w _ _ (by rw [strOfNums_size, strOfNums_size, ShaS.pad_length]; omega)
  have hconv : ∀ w : World, (convert 9 28 (.string all)).run Tryz.prog w = .ok (.slice (some ⟨w.heap.size, 0, none⟩) all.size (grownCap w all.size 0 5))
      (w.drew.alloc (.cells (bytesRow all (grownCap w all.size 0 5)) 5 ((bytesRow all (grownCap w all.size 0 5)).size, (bytesRow all (grownCap w all.size 0 5)).size + 1))) := fun w => run_bytes_of_string w _ _ _ all Tryz.underlying9 Tryz.underlying28 Tryz.underlying5
  have HCONV := Lib.hid hconv
  clear hconv hasz hamod hpz hN hall hal
  go_enter Tryz.func51, Tryz.ntmps51
  go_upto_region 1 with fail
  rename_i hK0
  refine wp_region_list ?_
  (refine wpList_plain rfl fun K hK => ?_; go_simp; refine (sha_first _).mono ?_; rintro e w1 ⟨rfl, hb1⟩; refine hK _ _ ?_; clear hK K; (try simp only [Act.put, List.setIfInBounds_toArray, List.set_cons_zero, List.set_cons_succ]))
  have hbw1 := hb1.size
  replace h := h.below hb1
  replace hb1 := hb1.mono hBw
  (refine wpList_plain rfl fun K hK => ?_; go_simp; refine hK _ _ ?_; clear hK K; (try simp only [Act.put, List.setIfInBounds_toArray, List.set_cons_zero, List.set_cons_succ]))
  refine hide_alloc (C := fun v => wpList _ _ _ _ _ v) 182 zeros8 ?_
  intro w2 z1 hb2 hs2
  refine wpList_store_arr rfl 182 _ _ rfl w1.heap.size 182 zeros8 (ShaS.iv.map (.int .u32)) rfl rfl z1 rfl (by rw [size_regs]; rfl) int_one ?_
  intro w3 z1 hk3 hs3
  have hb3 : Below w1.heap.size w1 w3 := hb2.trans (hk3.fresh (by omega) (Nat.le_refl _))
  have hlt1 := h.lt
  have hsz3 : w3.heap.size = w1.heap.size + 1 := by omega
  have hbuf : ∀ k, BufOf w3 b k → k < w1.heap.size := by
    rintro k ⟨n, c, hc⟩
    rw [hb3.cell (p := ⟨b, 1, none⟩) hlt1] at hc
    exact (h.buf ⟨n, c, hc⟩).2.2
  replace h := h.below hb3
  have hbel : Below B w w3 := hb1.trans (hb3.mono (by omega))
  clear hb1 hb2 hs2 hk3 hs3 hb3
  generalize w1.heap.size = br at *
  refine wpList_nil ?_
  refine hK0 _ _ ?_
  clear hK0
  try simp only [Act.put, List.setIfInBounds_toArray, List.set_cons_zero, List.set_cons_succ]
  go_upto_region 2 with fail
  rename_i hK0
  obtain ⟨ao, cap, c1, _⟩ := bld_cells h
  have HB := Lib.hid h
  clear h
  have hws : B ≤ w3.heap.size := by have := HB.out.lt; have := HB.out.1; omega
  have hbb : ¬ BufOf w3.drew b b := fun h => (HB.out.drew.buf h).2.1 rfl
  have hlt3 := HB.out.lt
  refine wp_region_noPanic ?_
  refine wp_region_held_drew (S := fun w' => w'.cell? ⟨b, 1, none⟩ = some (.slice ao l.length cap)) (by kernel_rfl) ?_ (fun hHeld => ?_)
  · (first | go_keep | exact (hk4.cell (p := ⟨b, 1, none⟩) hlt3 hbb).trans hHeld | exact (hb6.cell (p := ⟨b, 1, none⟩) (Nat.lt_of_lt_of_le hlt3 hk4.size)).trans hHeld)
  refine wpAnyH_take (i := 0) (oi := _) (v := ?_) rfl (by kernel_rfl) (by kernel_rfl) (by kernel_rfl) (fun _ _ _ h => h) (Or.inl ⟨by rfl, ?_⟩) (by assumption) ?_
  rotate_left; (intro w hSw; (try dsimp only at hSw); go_simp; first | done | (with_reducible rfl) | fail "REGION: operation 0 is not decided")
  try simp only [Act.put, List.setIfInBounds_toArray, List.set_cons_zero, List.set_cons_succ]
  refine wpAnyH_take (i := 4) (oi := _) (v := ?_) rfl (by kernel_rfl) (by kernel_rfl) (by kernel_rfl) (fun _ _ _ h => h) (Or.inl ⟨by rfl, ?_⟩) (by assumption) ?_
  rotate_left; (intro w hSw; (try dsimp only at hSw); go_simp; first | done | (with_reducible rfl) | fail "REGION: operation 4 is not decided")
  try simp only [Act.put, List.setIfInBounds_toArray, List.set_cons_zero, List.set_cons_succ]
  refine wpAnyH_take (i := 1) (oi := _) (v := ?_) rfl (by kernel_rfl) (by kernel_rfl) (by kernel_rfl) (fun _ _ _ h => h) (Or.inl ⟨by rfl, ?_⟩) (by assumption) ?_
  rotate_left; (intro w hSw; (try dsimp only at hSw); go_simp; first | done | (with_reducible rfl) | fail "REGION: operation 1 is not decided")
  try simp only [Act.put, List.setIfInBounds_toArray, List.set_cons_zero, List.set_cons_succ]
  refine wpAnyH_take (i := 5) (oi := _) (v := ?_) rfl (by kernel_rfl) (by kernel_rfl) (by kernel_rfl) (fun _ _ _ h => h) (Or.inl ⟨by rfl, ?_⟩) (by assumption) ?_
  rotate_left; (intro w hSw; (try dsimp only at hSw); go_simp; first | done | (with_reducible rfl) | fail "REGION: operation 5 is not decided")
  try simp only [Act.put, List.setIfInBounds_toArray, List.set_cons_zero, List.set_cons_succ]
  refine wpAnyH_take (i := 2) (oi := _) (v := ?_) rfl (by kernel_rfl) (by kernel_rfl) (by kernel_rfl) (fun _ _ _ h => h) (Or.inl ⟨by rfl, ?_⟩) (by assumption) ?_
  rotate_left; (intro w hSw; (try dsimp only at hSw); go_simp; first | done | (with_reducible rfl) | fail "REGION: operation 2 is not decided")
  try simp only [Act.put, List.setIfInBounds_toArray, List.set_cons_zero, List.set_cons_succ]
  refine wpAnyH_take (i := 6) (oi := _) (v := ?_) rfl (by kernel_rfl) (by kernel_rfl) (by kernel_rfl) (fun _ _ _ h => h) (Or.inl ⟨by rfl, ?_⟩) (by assumption) ?_
  rotate_left; (intro w hSw; (try dsimp only at hSw); go_simp; first | done | (with_reducible rfl) | fail "REGION: operation 6 is not decided")
  try simp only [Act.put, List.setIfInBounds_toArray, List.set_cons_zero, List.set_cons_succ]
  refine wpAnyH_ready (rs := [3]) (by kernel_rfl) (by simp) ?_
  refine AllReadyH.cons (o := _) rfl (fun K hK => ?_) AllReadyH.nil
  (go_simp; refine (b_string _ B b l _ (HB.out.drew) hws).mono ?_; rintro e w4 ⟨rfl, hk4⟩)
  refine hK.out _ _ ?_ (fun hHeld => ?_)
  · (first | go_keep | exact (hk4.cell (p := ⟨b, 1, none⟩) hlt3 hbb).trans hHeld | exact (hb6.cell (p := ⟨b, 1, none⟩) (Nat.lt_of_lt_of_le hlt3 hk4.size)).trans hHeld)
  clear hK K
  try simp only [Act.put, List.setIfInBounds_toArray, List.set_cons_zero, List.set_cons_succ]
  refine wpAnyH_ready (rs := [7]) (by kernel_rfl) (by simp) ?_
  refine AllReadyH.cons (o := _) rfl (fun K hK => ?_) AllReadyH.nil
  (go_simp; refine (b_len_cell b l.length cap ao _ (by assumption)).mono ?_; rintro e w5 ⟨rfl, rfl⟩)
  refine hK.out _ _ ?_ (fun hHeld => ?_)
  · (first | go_keep | exact (hk4.cell (p := ⟨b, 1, none⟩) hlt3 hbb).trans hHeld | exact (hb6.cell (p := ⟨b, 1, none⟩) (Nat.lt_of_lt_of_le hlt3 hk4.size)).trans hHeld)
  clear hK K
  try simp only [Act.put, List.setIfInBounds_toArray, List.set_cons_zero, List.set_cons_succ]
  refine wpAnyH_ready (rs := [8]) (by kernel_rfl) (by simp) ?_
  refine AllReadyH.cons (o := _) rfl (fun K hK => ?_) AllReadyH.nil
  (go_simp; refine (sha_pad l.length (by omega) _).mono ?_; rintro e w6 ⟨rfl, hb6⟩)
  refine hK.out _ _ ?_ (fun hHeld => ?_)
  · (first | go_keep | exact (hk4.cell (p := ⟨b, 1, none⟩) hlt3 hbb).trans hHeld | exact (hb6.cell (p := ⟨b, 1, none⟩) (Nat.lt_of_lt_of_le hlt3 hk4.size)).trans hHeld)
  clear hK K
  try simp only [Act.put, List.setIfInBounds_toArray, List.set_cons_zero, List.set_cons_succ]
  refine wpAnyH_take (i := 9) (oi := _) (v := ?_) rfl (by kernel_rfl) (by kernel_rfl) (by kernel_rfl) (fun _ _ _ h => h) (Or.inl ⟨by rfl, ?_⟩) (by assumption) ?_
  rotate_left; (intro w hSw; (try dsimp only at hSw); go_simp; first | done | (with_reducible rfl) | fail "REGION: operation 9 is not decided")
  try simp only [Act.put, List.setIfInBounds_toArray, List.set_cons_zero, List.set_cons_succ]
  refine wpAnyH_ready (rs := [10]) (by kernel_rfl) (by simp) ?_
  refine AllReadyH.cons (o := _) rfl (fun K hK => ?_) AllReadyH.nil
  (have hconv := HCONV.out; go_simp)
  refine hK.out _ _ ?_ (fun hHeld => ?_)
  · (first | go_keep | exact (hk4.cell (p := ⟨b, 1, none⟩) hlt3 hbb).trans hHeld | exact (hb6.cell (p := ⟨b, 1, none⟩) (Nat.lt_of_lt_of_le hlt3 hk4.size)).trans hHeld)
  clear hK K
  try simp only [Act.put, List.setIfInBounds_toArray, List.set_cons_zero, List.set_cons_succ]
  refine wpAnyH_take (i := 11) (oi := _) (v := ?_) rfl (by kernel_rfl) (by kernel_rfl) (by kernel_rfl) (fun _ _ _ h => h) (Or.inl ⟨by rfl, ?_⟩) (by assumption) ?_
  rotate_left; (intro w hSw; (try dsimp only at hSw); go_simp; first | done | (with_reducible rfl) | fail "REGION: operation 11 is not decided")
  try simp only [Act.put, List.setIfInBounds_toArray, List.set_cons_zero, List.set_cons_succ]
  refine wpAnyH_done (by kernel_rfl) ?_ _
  have z4 : ArrAt w6 br 182 (ShaS.iv.map (.int .u32)) := by
    refine ArrAt.below (ArrAt.keeps z1.drew hk4 z1.lt ?_) hb6 (Nat.lt_of_lt_of_le z1.lt hk4.size)
    intro hk
    exact Nat.lt_irrefl _ (hbuf br hk)
  have hbel4 : Below B w w6 := ((Below.drew hbel).trans (HB.out.drew.below_of_buf hk4 (Nat.le_refl _))).trans (hb6.mono (Nat.le_trans hws hk4.size))
  have hbr6 : br < w6.heap.size := z4.lt
  refine NoPanic.normal ?_
  refine hK0 _ _ ?_
  clear hK0
  try simp only [Act.put, List.setIfInBounds_toArray, List.set_cons_zero, List.set_cons_succ]
  have hc6 : ∀ j, j < 64 * N → (w6.drew.alloc (.cells (bytesRow all (grownCap w6 all.size 0 5)) 5 ((bytesRow all (grownCap w6 all.size 0 5)).size, (bytesRow all (grownCap w6 all.size 0 5)).size + 1))).cell? ⟨w6.heap.size, j, none⟩ = some (.int .u8 ((bytesOf all).getD j 0)) :=
    fun j hj => bytesRow_cell w6 _ all _ _ j (by rw [HN.out]; exact hj)
  have hcap : 64 * N ≤ grownCap w6 all.size 0 5 := by have := grownCap_ge w6 all.size 0 5; have := HN.out; omega
  have z5 := (z4.drewN 1).alloc (.cells (bytesRow all (grownCap w6 all.size 0 5)) 5 ((bytesRow all (grownCap w6 all.size 0 5)).size, (bytesRow all (grownCap w6 all.size 0 5)).size + 1))
  have hbel5 : Below B w (w6.drew.alloc (.cells (bytesRow all (grownCap w6 all.size 0 5)) 5 ((bytesRow all (grownCap w6 all.size 0 5)).size, (bytesRow all (grownCap w6 all.size 0 5)).size + 1))) :=
    (Below.drew hbel4).alloc (by have := hk4.size; have := hb6.size; show B ≤ w6.heap.size; simp at *; omega) _
  refine hide_world (C := fun v => Code.wp _ _ _ _ v) (P := fun v => ArrAt v br 182 (ShaS.iv.map (.int .u32)) ∧ Below B w v ∧ w6.heap.size < v.heap.size ∧ ∀ j, j < 64 * N → v.cell? ⟨w6.heap.size, j, none⟩ = some (.int .u8 ((bytesOf all).getD j 0))) ⟨z5, hbel5, by simp [World.drew], hc6⟩ ?_
  rintro w7 ⟨z7, hbel7, hlt7, hc7⟩
  generalize grownCap w6 all.size 0 5 = cap6 at *
  have hNb : 64 * N < 200000000 := by have := HN.out; omega
  have hblen : (bytesOf all).length = 64 * N := by rw [bytesOf_length]; exact HN.out
  rw [HN.out] at *
  have hg7 : br ≠ w6.heap.size := by omega
  clear hb hc6 z5 hbel5 z4 hbel4 hbel
  generalize w6.heap.size = g at *
  go_wp2_with fail
  go_loopw [4] (fun v wr => ∃ k m off c : Nat, k ≤ N ∧ v = .slice (some ⟨g, off, none⟩) m c ∧ m = 64 * (N - k) ∧ m ≤ c ∧ (k < N → off = 64 * k) ∧ ArrAt wr br 182 ((ShaS.regs (bytesOf all) k).map (.int .u32)) ∧ Keeps (· = br) w7.heap.size w7 wr ∧ Below B w wr) (fun v _ => (match v with | .slice _ l _ => l | _ => 0))
  case atStart => exact ⟨0, 64 * N, 0, cap6, by omega, rfl, rfl, hcap, fun _ => rfl, z7, Keeps.refl _ _ _, hbel7⟩
  case round =>
    obtain ⟨k, m, off, c, hk, rfl, hm, hmc, hoff, hz, hkp, hbe⟩ := hrel
    by_cases hlt : k < N
    · have hm64 : (64 : Int) ≤ (m : Int) := by omega
      have ho := hoff hlt
      have HO := Lib.hid ho
      have HM := Lib.hid hm
      have hc64 : (64 : Int) ≤ (c : Int) := by omega
      clear ho hm hoff
      go_wp2_with fail
      have hgw : g < w7.heap.size := by omega
      have hcell : ∀ j, j < 64 → wr.cell? ⟨g, off + j, none⟩ = some (.int .u8 ((((bytesOf all).drop (64 * k)).take 64).getD j 0)) := by
        intro j hj
        rw [hkp.cell (p := ⟨g, off + j, none⟩) hgw (fun e => hg7 e.symm), HO.out, hc7 (64 * k + j) (by omega)]
        congr 2
        simp only [List.getD_eq_getElem?_getD]
        rw [List.getElem?_take_of_lt hj, List.getElem?_drop]
      refine (sha_block br g off 64 _ (((bytesOf all).drop (64 * k)).take 64) (ShaS.regs_length _ k) (ShaS.regs_range _ k) ?_ ?_ wr hz hcell).mono ?_
      · intro x hx; exact bytesOf_allBytes all x (List.mem_of_mem_drop (List.mem_of_mem_take hx))
      · rw [List.length_take, List.length_drop, hblen]; omega
      rintro e w8 ⟨rfl, hz8, hk8⟩
      go_wp2
      have hm1 := HM.out
      refine ⟨?_, by simp; omega⟩
      have hzn : ArrAt w8 br 182 ((ShaS.regs (bytesOf all) (k + 1)).map (.int .u32)) := hz8
      have hkn : Keeps (· = br) w7.heap.size w7 w8 := hkp.trans (hk8.mono hkp.size (fun _ _ h => h))
      have hbn : Below B w w8 := hbe.trans (hk8.fresh (by have := hkp.size; omega) (by omega))
      by_cases hc : c = 64
      · rw [if_pos hc]
        exact ⟨k + 1, m - 64, off, c - 64, by omega, rfl, by omega, by omega, fun h => by omega, hzn, hkn, hbn⟩
      · rw [if_neg hc]
        exact ⟨k + 1, m - 64, off + 64, c - 64, by omega, rfl, by omega, by omega, fun _ => by have := HO.out; omega, hzn, hkn, hbn⟩
    · have hkN : k = N := by omega
      have hm64 : ¬ (64 : Int) ≤ (m : Int) := by omega
      subst hkN
      clear hm hoff hlt
      have hwbr := hz.lt
      go_wp2_with (refine wpList_load_row rfl 182 _ rfl br rfl 182 _ (0, 0) _ hz under_regs rfl (by rw [size_regs]; simp [ShaS.regs_length]) ?_)
      have hbe0 := hbe.size
      have HZL : Hid ((ShaS.regs (bytesOf all) k).length = 8) := ShaS.regs_length _ k
      have HZR : Hid (∀ x ∈ ShaS.regs (bytesOf all) k, ShaS.W32 x) := ShaS.regs_range _ k
      generalize ShaS.regs (bytesOf all) k = S at *
      obtain ⟨wo, rfl⟩ : ∃ wo : World, wo = wr := ⟨_, rfl⟩
      go_loopw [5, 29] (fun v i wr => ∃ j : Nat, j ≤ 8 ∧ i = .int .i64 (j : Int) ∧ wr.ownsRow wo.heap.size 5 1 v (4 * j) ((ShaS.outB S j).map (.int .u8)) ∧ Below wo.heap.size wo wr) (fun _ i _ => (8 - intOf i).toNat)
      case atStart => exact ⟨0, by omega, rfl, World.ownsRow_nil _ _ _ _, Below.refl _ _⟩
      case round =>
        obtain ⟨j, hj, rfl, hout, hbq⟩ := hrel
        have hsq := hbq.size
        by_cases hlt : j < 8
        · have hS8 := HZL.out
          have hz : S[j]? = some (S.getD j 0) := by rw [List.getD_eq_getElem?_getD, List.getElem?_eq_getElem (by omega)]; rfl
          have hyr : ShaS.W32 (S.getD j 0) := ShaS.getD_range HZR.out j
          obtain ⟨y, Y⟩ : ∃ y, Hid (y = S.getD j 0) := ⟨_, Lib.hid rfl⟩
          rw [← Y.out] at hz hyr
          obtain ⟨y0, y1⟩ := hyr
          have hix := run_index_row (P := Tryz.prog) (k := .u32) wr 182 34 8 j y under_regs (by kernel_rfl) (by simp [isAgg, run_underlying Tryz.underlying34]) hlt hz
          have hjI : (j : Int) < 8 := by omega
          clear hS8
          obtain ⟨ao, n', c', rfl⟩ : ∃ ao n' c', u5 = .slice ao n' c' := by
            rcases hout.2 with ⟨hv, _⟩ | ⟨_, _, _, hv, _⟩
            · exact ⟨_, _, _, hv⟩
            · exact ⟨_, _, _, hv⟩
          go_wp2_with (refine wpList_append_keep rfl _ _ _ rfl wo.heap.size 5 i0 _ 1 1 Tryz.underlying28 hi hz0 hz1 hz2 rfl (by decide) (.slice ao n' c') (4 * j) _ rfl (hout.alloc _) ⟨wr.heap.size, 0, none⟩ 4 4 [_, _, _, _] rfl rfl (World.news_of_block (heap_alloc_new _ _)) (by simp [Value.oneCell']) (by omega) (by unfold maxLen; omega) (by omega) (by first | omega | (simp; omega)) ?_)
          intro g' cap' w1 hA
          have hb1 : Below wo.heap.size wo w1 := Below.appended (by have hsz := (hbq).size; repeat' (first | exact hbq | refine Below.drew ?_ | refine below_drewN ?_ _ | refine Below.alloc ?_ (by first | omega | (simp; omega)) _)) hA (by simp; omega) (own_ge hout)
          go_wp2
          go_roundw
          case rel =>
            refine ⟨j + 1, by omega, by go_num, ?_, hb1⟩
            have hown1 := hA.own
            have e : (ShaS.outB S (j + 1)).map (Value.int .u8) = (ShaS.outB S j).map (Value.int .u8) ++ [.int .u8 (y / 16777216 % 256), .int .u8 (y / 65536 % 256), .int .u8 (y / 256 % 256), .int .u8 (y % 256)] := by
              rw [ShaS.outB_succ, List.map_append, ← Y.out]; rfl
            rw [e, show 4 * (j + 1) = 4 * j + 4 by omega, show y / 16777216 % 256 = y / 16777216 by omega]
            exact hown1
          case measure => simp [intOf]; omega
        · have hj8 : j = 8 := by omega
          subst hj8
          have hc := conv_own (P := Tryz.prog) wr 28 9 5 Tryz.underlying28 Tryz.underlying5 Tryz.underlying9 _ _ _ _ hout
          rw [← HR.out] at hc
          go_wp2
          go_ret
          exact ⟨rfl, hbe.trans (hbq.mono (by have := hkp.size; omega))⟩

set_option maxRecDepth 100000 in
theorem sha_sum (s : ByteArray) (hs : s.size < 100000000) (w : World) :
    Calls Tryz.prog 28 #[.string s] w fun e w' => e = .returned (.string (strOfNums (ShaS.sum (bytesOf s)))) ∧ Below w.heap.size w w' := by
  have hb0 : Bld 109 w.heap.size w.heap.size [] (w.alloc (.cells #[.pointer none, .slice none 0 0] 109)) := Bld.new _ _ w (Nat.le_refl _)
  have hbel : Below w.heap.size w (w.alloc (.cells #[.pointer none, .slice none 0 0] 109)) := (Below.refl _ _).alloc (Nat.le_refl _) _
  go_enter Tryz.func28, Tryz.ntmps28
  go_wp2_with ((go_at_call 50; refine (hash_write w.heap.size w.heap.size [] s _ hb0 (by simp; omega) (by simp)).mono ?_))
  rintro e w1 ⟨rfl, hb1, hbl1⟩
  rw [List.nil_append] at hb1
  have hbw := hbel.trans hbl1
  clear hb0 hbel hbl1
  have hlt1 := hb1.lt
  go_wp2_with ((go_at_call 51; refine (hash_sum w.heap.size w.heap.size _ _ hb1 (by rw [bytesOf_length]; exact hs) (by omega)).mono ?_))
  rintro e w2 ⟨rfl, hbl2⟩
  go_wp2
  go_ret
  exact ⟨rfl, hbw.trans hbl2⟩
end Go.Proofs.YtjpdagfdcniphaaGreatDoor
