/- net: Add -/
import Derived.Test.YtjpdagfdcniphaaGreatDoorNetA
set_option linter.unusedVariables false
set_option linter.unusedSimpArgs false
namespace Go.Proofs.YtjpdagfdcniphaaGreatDoor
open Go.RowKit Go.Maps

set_option maxRecDepth 100000 in
set_option maxHeartbeats 1000000 in
theorem net_add_full (B bn k : Nat) (seed : ByteArray) (drawn now last : Int) (es : List Value) (m : ByteArray → Option Int) (wire : Obj) (w : World) (h8 : es.length = 8) (h : NetAt B bn seed drawn now last es k m wire w) (cv : List Value) (hcv : ∃ a b c d e, cv = [a, b, c, d, e]) :
    Calls Tryz.prog 9 #[.pointer (some ⟨bn, 0, none⟩), .agg cv.toArray] w fun e w' => e = .returned (.tuple #[.int .i64 0, .int .i64 10]) ∧ Below w.heap.size w w' := by
  obtain ⟨c0', c1', c2', c3', c4', rfl⟩ := hcv
  obtain ⟨h0, ev, mo, mw, h1, _, _, _, _, _, _, hown, _⟩ := h
  have c3 := h1.cell 3
  simp only [List.getElem?_cons_zero, List.getElem?_cons_succ] at c3
  have hlt := h1.lt
  rw [h8] at hown
  obtain ⟨ao, c, rfl⟩ := own_form hown
  clear hown
  go_enter Tryz.func9, Tryz.ntmps9
  go_wp2
  go_ret2
  exact ⟨rfl, (Below.refl _ _).alloc (Nat.le_refl _) _⟩

def addAll (n : Int) : List ByteArray → (ByteArray → Option Int) → ByteArray → Option Int
  | [], m => m
  | s :: ss, m => addAll n ss (fun t => if t = s then some n else m t)

theorem addAll_snoc (n : Int) (l : List ByteArray) (s : ByteArray) (m : ByteArray → Option Int) : addAll n (l ++ [s]) m = fun t => if t = s then some n else addAll n l m t := by
  induction l generalizing m with
  | nil => rfl
  | cons a l ih => exact ih _
theorem info_ptr : ((Tryz.prog).info? 38).map (fun i => (i.zero, i.size, i.bytes)) = some (some (.pointer none), 1, 8) := by kernel_rfl

set_option maxRecDepth 100000 in
set_option maxHeartbeats 4000000 in
theorem net_add (B bn k : Nat) (seed : ByteArray) (drawn now last : Int) (es : List Value) (m : ByteArray → Option Int) (wire : Obj) (w : World) (hlen : es.length < 8) (hk : k < 1000) (h : NetAt B bn seed drawn now last es k m wire w)
    (g n c : Nat) (ss : List ByteArray) (key : ByteArray) (port window streams : Int) (hl : ss.length = n) (h4 : ∀ s ∈ ss, s.size = 4) (h0 : 0 < n) (hn : n < 1000) (hs : ∀ j, j < n → w.cell? ⟨g, j, none⟩ = some (.string (ss.getD j .empty)))
    (hp : port ≠ 0) (hs1 : 1 ≤ streams) (hs2 : streams ≤ 16) (hgB : g < B ∨ True) :
    Calls Tryz.prog 9 #[.pointer (some ⟨bn, 0, none⟩), .agg #[.slice (some ⟨g, 0, none⟩) n c, .int .u16 port, .string key, .int .u32 window, .int .u16 streams]] w fun e w' =>
      ((∃ s ∈ ss, m s ≠ none) ∧ e = .returned (.tuple #[.int .i64 0, .int .i64 9]) ∧ Below w.heap.size w w') ∨
      ((∀ s ∈ ss, m s = none) ∧ ∃ be, e = .returned (.tuple #[.int .i64 es.length, .int .i64 0]) ∧ NetAt B bn seed drawn now last (es ++ [.pointer (some ⟨be, 0, none⟩)]) (k + n) (addAll es.length ss m) wire w' ∧ Below B w w' ∧ ArrKeep w w') := by
  obtain ⟨hB, ev, mo, mw, h1, h2, h3, hm, hw, hmw, hbw, hown, hne⟩ := h
  have c3 := h1.cell 3
  have c2 := h1.cell 2
  have c4 := h1.cell 4
  simp only [List.getElem?_cons_zero, List.getElem?_cons_succ] at c2 c3 c4
  have hlt := h1.lt
  obtain ⟨ao, ce, rfl⟩ := own_form hown
  have hlI : (es.length : Int) < 8 := by omega
  have hl8 : ¬ 8 ≤ es.length := by omega
  have hglt := block_lt_of_cell (hs 0 h0)
  have HS := Lib.hid hs
  have H4 := Lib.hid h4
  have HL := Lib.hid hl
  have HN := Lib.hid (And.intro h0 hn)
  have HC : ArrAt (w.alloc (.cells #[.slice (some ⟨g, 0, none⟩) n c, .int .u16 port, .string key, .int .u32 window, .int .u16 streams] 36)) w.heap.size 36 [.slice (some ⟨g, 0, none⟩) n c, .int .u16 port, .string key, .int .u32 window, .int .u16 streams] := ArrAt.new w _ _
  clear hs h4 hl
  go_enter Tryz.func9, Tryz.ntmps9
  go_wp2_with fail
  refine hide_world (C := fun v => Code.wp _ _ _ _ v) (P := fun v => ArrAt v w.heap.size 36 [.slice (some ⟨g, 0, none⟩) n c, .int .u16 port, .string key, .int .u32 window, .int .u16 streams] ∧ Below w.heap.size w v ∧ v.heap.size = w.heap.size + 1) ⟨HC, (Below.refl _ _).alloc (Nat.le_refl _) _, by simp⟩ ?_
  clear HC
  rintro w1 ⟨hC, hb1, hsz1⟩
  replace h1 := h1.below hb1 hlt
  replace hm := hm.below hb1 hm.lt
  replace hw := (hb1.block mw (Array.getElem?_eq_some_iff.1 hw).1).trans hw
  replace hown := own_below hown hb1 (own_lt hown)
  have HS1 : Hid (∀ j, j < n → w1.cell? ⟨g, j, none⟩ = some (.string (ss.getD j .empty))) := fun j hj => (hb1.cell (p := ⟨g, j, none⟩) hglt).trans (HS.out j hj)
  replace c3 := h1.cell 3
  replace c2 := h1.cell 2
  replace c4 := h1.cell 4
  simp only [List.getElem?_cons_zero, List.getElem?_cons_succ] at c2 c3 c4
  go_loopw [23] (fun i wr => ∃ j : Nat, j ≤ n ∧ i = .int .i64 (j : Int) ∧ wr = w1 ∧ ∀ i, i < j → m (ss.getD i .empty) = none) (fun i _ => (n - intOf i).toNat)
  case atStart => exact ⟨0, by omega, rfl, rfl, fun i hi => by omega⟩
  case round =>
    obtain ⟨j, hj, rfl, rfl, hnone⟩ := hrel
    have HNONE := Lib.hid hnone
    clear hnone
    by_cases hjlt : j < n
    · obtain ⟨s, hsj⟩ : ∃ s, s = ss.getD j .empty := ⟨_, rfl⟩
      have hcs := HS1.out j hjlt
      rw [← hsj] at hcs
      have hmem : s ∈ ss := by
        rw [hsj, List.getD_eq_getElem?_getD, List.getElem?_eq_getElem (by rw [HL.out]; exact hjlt)]
        exact List.getElem_mem _
      have hlook := hm.look s (by rw [H4.out s hmem]; decide)
      have hjI : (j : Int) < (n : Int) := by omega
      have HSJ := Lib.hid hsj
      clear hsj
      cases hms : m s with
      | none =>
        rw [hms] at hlook
        simp only [Option.getD, Option.isSome] at hlook
        go_wp2
        go_roundw
        case rel =>
          refine ⟨j + 1, by omega, by go_num, by first | rfl | trivial, fun i hi => ?_⟩
          by_cases e : i = j
          · subst e; rw [← HSJ.out]; exact hms
          · exact HNONE.out i (by omega)
        case measure => simp [intOf]; omega
      | some x =>
        rw [hms] at hlook
        simp only [Option.getD, Option.isSome] at hlook
        go_wp2
        go_ret2
        exact .inl ⟨⟨s, hmem, by rw [hms]; simp⟩, rfl, hb1⟩
    · have hjn : j = n := by omega
      subst hjn
      have hall : ∀ s ∈ ss, m s = none := by
        intro s hs
        obtain ⟨i, hi, rfl⟩ := List.getElem_of_mem hs
        have := HNONE.out i (by rw [← HL.out]; exact hi)
        rwa [List.getD_eq_getElem?_getD, List.getElem?_eq_getElem hi] at this
      have HALL := Lib.hid hall
      clear hall
      have e0 := hC.cell 0
      have e1 := hC.cell 1
      have e2 := hC.cell 2
      have e3 := hC.cell 3
      have e4 := hC.cell 4
      simp only [List.getElem?_cons_zero, List.getElem?_cons_succ] at e0 e1 e2 e3 e4
      go_wp2_with fail
      rename_i hK0
      have hs4 := H4.out
      have hlw : w.heap.size < wr.heap.size := by omega
      have hltr : bn < wr.heap.size := by omega
      refine wp_region_noPanic ?_
      refine wp_region_held_drew (S := fun w' => w'.cell? ⟨w.heap.size, 0, none⟩ = some (.slice (some ⟨g, 0, none⟩) j c) ∧ w'.cell? ⟨w.heap.size, 1, none⟩ = some (.int .u16 port) ∧ w'.cell? ⟨w.heap.size, 2, none⟩ = some (.string key) ∧ w'.cell? ⟨w.heap.size, 3, none⟩ = some (.int .u32 window) ∧ w'.cell? ⟨w.heap.size, 4, none⟩ = some (.int .u16 streams) ∧ w'.cell? ⟨bn, 2, none⟩ = some (.int .i64 now)) (by kernel_rfl) ?_ (fun hHeld => ?_)
      · (first | go_keep | exact ⟨(hb2.cell (p := ⟨w.heap.size, 0, none⟩) hlw).trans e0, (hb2.cell (p := ⟨w.heap.size, 1, none⟩) hlw).trans e1, (hb2.cell (p := ⟨w.heap.size, 2, none⟩) hlw).trans e2, (hb2.cell (p := ⟨w.heap.size, 3, none⟩) hlw).trans e3, (hb2.cell (p := ⟨w.heap.size, 4, none⟩) hlw).trans e4, (hb2.cell (p := ⟨bn, 2, none⟩) hltr).trans c2⟩)
      refine wpAnyH_take (i := 0) (oi := _) (v := ?_) rfl (by kernel_rfl) (by kernel_rfl) (by kernel_rfl) (fun _ _ _ h => h) (Or.inl ⟨by rfl, ?_⟩) (by assumption) ?_
      rotate_left; (intro w hSw; (try dsimp only at hSw); go_simp; first | done | (with_reducible rfl) | fail "REGION: operation 0 is not decided")
      try simp only [Act.put, List.setIfInBounds_toArray, List.set_cons_zero, List.set_cons_succ]
      refine wpAnyH_take (i := 1) (oi := _) (v := ?_) rfl (by kernel_rfl) (by kernel_rfl) (by kernel_rfl) (fun _ _ _ h => h) (Or.inl ⟨by rfl, ?_⟩) (by assumption) ?_
      rotate_left; (intro w hSw; (try dsimp only at hSw); go_simp; first | done | (with_reducible rfl) | fail "REGION: operation 1 is not decided")
      try simp only [Act.put, List.setIfInBounds_toArray, List.set_cons_zero, List.set_cons_succ]
      refine wpAnyH_take (i := 2) (oi := _) (v := ?_) rfl (by kernel_rfl) (by kernel_rfl) (by kernel_rfl) (fun _ _ _ h => h) (Or.inl ⟨by rfl, ?_⟩) (by assumption) ?_
      rotate_left; (intro w hSw; (try dsimp only at hSw); go_simp; first | done | (with_reducible rfl) | fail "REGION: operation 2 is not decided")
      try simp only [Act.put, List.setIfInBounds_toArray, List.set_cons_zero, List.set_cons_succ]
      refine wpAnyH_take (i := 3) (oi := _) (v := ?_) rfl (by kernel_rfl) (by kernel_rfl) (by kernel_rfl) (fun _ _ _ h => h) (Or.inl ⟨by rfl, ?_⟩) (by assumption) ?_
      rotate_left; (intro w hSw; (try dsimp only at hSw); go_simp; first | done | (with_reducible rfl) | fail "REGION: operation 3 is not decided")
      try simp only [Act.put, List.setIfInBounds_toArray, List.set_cons_zero, List.set_cons_succ]
      refine wpAnyH_take (i := 4) (oi := _) (v := ?_) rfl (by kernel_rfl) (by kernel_rfl) (by kernel_rfl) (fun _ _ _ h => h) (Or.inl ⟨by rfl, ?_⟩) (by assumption) ?_
      rotate_left; (intro w hSw; (try dsimp only at hSw); go_simp; first | done | (with_reducible rfl) | fail "REGION: operation 4 is not decided")
      try simp only [Act.put, List.setIfInBounds_toArray, List.set_cons_zero, List.set_cons_succ]
      refine wpAnyH_ready (rs := [5]) (by kernel_rfl) (by simp) ?_
      refine AllReadyH.cons (o := _) rfl (fun K hK => ?_) AllReadyH.nil
      (go_simp; refine (sock_new g j c ss key port window streams now HL.out hs4 wr.drew HN.out.1 HN.out.2 (by exact HS1.out) hp hs1 hs2).mono ?_; rintro e w2 ⟨be, rfl, hb2⟩)
      refine hK.out _ _ ?_ (fun hHeld => ?_)
      · (first | go_keep | exact ⟨(hb2.cell (p := ⟨w.heap.size, 0, none⟩) hlw).trans e0, (hb2.cell (p := ⟨w.heap.size, 1, none⟩) hlw).trans e1, (hb2.cell (p := ⟨w.heap.size, 2, none⟩) hlw).trans e2, (hb2.cell (p := ⟨w.heap.size, 3, none⟩) hlw).trans e3, (hb2.cell (p := ⟨w.heap.size, 4, none⟩) hlw).trans e4, (hb2.cell (p := ⟨bn, 2, none⟩) hltr).trans c2⟩)
      clear hK K
      try simp only [Act.put, List.setIfInBounds_toArray, List.set_cons_zero, List.set_cons_succ]
      refine wpAnyH_take (i := 6) (oi := _) (v := ?_) rfl (by kernel_rfl) (by kernel_rfl) (by kernel_rfl) (fun _ _ _ h => h) (Or.inl ⟨by rfl, ?_⟩) (by assumption) ?_
      rotate_left; (intro w hSw; (try dsimp only at hSw); go_simp; first | done | (with_reducible rfl) | fail "REGION: operation 6 is not decided")
      try simp only [Act.put, List.setIfInBounds_toArray, List.set_cons_zero, List.set_cons_succ]
      refine wpAnyH_take (i := 7) (oi := _) (v := ?_) rfl (by kernel_rfl) (by kernel_rfl) (by kernel_rfl) (fun _ _ _ h => h) (Or.inl ⟨by rfl, ?_⟩) (by assumption) ?_
      rotate_left; (intro w hSw; (try dsimp only at hSw); go_simp; first | done | (with_reducible rfl) | fail "REGION: operation 7 is not decided")
      try simp only [Act.put, List.setIfInBounds_toArray, List.set_cons_zero, List.set_cons_succ]
      refine wpAnyH_take (i := 8) (oi := _) (v := ?_) rfl (by kernel_rfl) (by kernel_rfl) (by kernel_rfl) (fun _ _ _ h => h) (Or.inl ⟨by rfl, ?_⟩) (by assumption) ?_
      rotate_left; (intro w hSw; (try dsimp only at hSw); go_simp; first | done | (with_reducible rfl) | fail "REGION: operation 8 is not decided")
      try simp only [Act.put, List.setIfInBounds_toArray, List.set_cons_zero, List.set_cons_succ]
      refine wpAnyH_take (i := 9) (oi := _) (v := ?_) rfl (by kernel_rfl) (by kernel_rfl) (by kernel_rfl) (fun _ _ _ h => h) (Or.inl ⟨by rfl, ?_⟩) (by assumption) ?_
      rotate_left; (intro w hSw; (try dsimp only at hSw); go_simp; first | done | (with_reducible rfl) | fail "REGION: operation 9 is not decided")
      try simp only [Act.put, List.setIfInBounds_toArray, List.set_cons_zero, List.set_cons_succ]
      refine wpAnyH_take (i := 10) (oi := _) (v := ?_) rfl (by kernel_rfl) (by kernel_rfl) (by kernel_rfl) (fun _ _ _ h => h) (Or.inl ⟨by rfl, ?_⟩) (by assumption) ?_
      rotate_left; (intro w hSw; (try dsimp only at hSw); go_simp; first | done | (with_reducible rfl) | fail "REGION: operation 10 is not decided")
      try simp only [Act.put, List.setIfInBounds_toArray, List.set_cons_zero, List.set_cons_succ]
      refine wpAnyH_done (by kernel_rfl) ?_ _
      refine NoPanic.normal ?_
      refine hK0 _ _ ?_
      clear hK0 hHeld
      try simp only [Act.put, List.setIfInBounds_toArray, List.set_cons_zero, List.set_cons_succ]
      have hb2' : Below wr.heap.size wr w2 := ⟨hb2.os, hb2.tape, hb2.output, hb2.size, hb2.block⟩
      clear e0 e1 e2 e3 e4 c2 c3 c4
      have HS2 : Hid (∀ i, i < j → w2.cell? ⟨g, i, none⟩ = some (.string (ss.getD i .empty))) := fun i hi => (hb2'.cell (p := ⟨g, i, none⟩) (by show g < _; omega)).trans (HS1.out i hi)
      replace h1 := h1.below hb2' hltr
      replace hm := hm.below hb2' hm.lt
      replace hw := (hb2'.block mw (Array.getElem?_eq_some_iff.1 hw).1).trans hw
      replace hown := own_below hown hb2' (own_lt hown)
      replace hC := hC.below hb2' hlw
      have hsz2 := hb2'.size
      have hb3 : Below w.heap.size w w2 := hb1.trans (hb2'.mono (by omega))
      clear hb1 hb2 hb2' HS1
      have e0 := hC.cell 0
      simp only [List.getElem?_cons_zero, List.getElem?_cons_succ] at e0
      go_wp2_with fail
      have hgm : g ≠ mo := by
        rintro rfl
        have := HS2.out 0 HN.out.1
        rw [hm.not_cell 0] at this
        cases this
      obtain ⟨wo, rfl⟩ : ∃ wo : World, wo = wr := ⟨_, rfl⟩
      go_loopw [53] (fun x wr => ∃ i : Nat, i ≤ j ∧ x = .int .i64 (i : Int) ∧ SMap wr mo (k + i) (addAll es.length (ss.take i) m) ∧ Keeps (· = mo) w2.heap.size w2 wr) (fun x _ => (j - intOf x).toNat)
      case atStart => exact ⟨0, by omega, rfl, hm, Keeps.refl _ _ _⟩
      case round =>
        obtain ⟨i, hi, rfl, hmi, hki⟩ := hrel
        have hmo := hm.lt
        have hA1 := h1.keeps hki h1.lt (fun e => hm.not_arr h1 e.symm)
        have c3 := hA1.cell 3
        have c4 := hA1.cell 4
        simp only [List.getElem?_cons_zero, List.getElem?_cons_succ] at c3 c4
        by_cases hilt : i < j
        · obtain ⟨s, hsj⟩ : ∃ s, s = ss.getD i .empty := ⟨_, rfl⟩
          have hcs := (hki.cell (p := ⟨g, i, none⟩) (by have := hsz2; show g < _; omega) hgm).trans (HS2.out i hilt)
          rw [← hsj] at hcs
          have hil : i < ss.length := by rw [HL.out]; exact hilt
          have hgi : ss[i] = s := by rw [hsj, List.getD_eq_getElem?_getD, List.getElem?_eq_getElem hil]; rfl
          have hs4 : s.size = 4 := H4.out s (hgi ▸ List.getElem_mem hil)
          have hjI : (i : Int) < (j : Int) := by omega
          have HT : Hid (ss.take (i + 1) = ss.take i ++ [s]) := by show _ = _; rw [List.take_succ_eq_append_getElem hil, hgi]
          clear hsj hgi hil
          have HS4 := Lib.hid hs4
          clear hs4
          go_wp2_with fail
          refine wp_region_still_tail 10 (by kernel_rfl) (by kernel_rfl) ?_
          simp only [List.take_succ_cons, List.take_zero, List.drop_succ_cons, List.drop_zero]
          repeat still_step
          refine wpStill_nil ?_
          change wpList _ _ _ _ _ wr.drew
          refine wpList_smap_update _ rfl _ _ _ rfl mo (k + i) _ hmi.drew (by unfold maxLen; omega) s (by rw [HS4.out]; decide) (es.length : Int) (WalkArith.wf_i64 (by omega)) rfl rfl rfl ?_
          intro w4 hm4 hg4
          refine wpList_nil ?_
          try simp only [Act.put, List.setIfInBounds_toArray, List.set_cons_zero, List.set_cons_succ]
          go_wp2
          go_roundw
          case rel =>
            refine ⟨i + 1, by omega, by go_num, ?_, hki.trans ⟨hg4.os, hg4.tape, hg4.output, hg4.size, fun b hb hne => hg4.block b (by have := hki.size; show b < wr.heap.size; omega) (fun e => hne (by injection e))⟩⟩
            rw [HT.out, addAll_snoc]
            exact hm4
          case measure => simp [intOf]; omega
        · have hin : i = j := by omega
          subst hin
          have hss : ss.take i = ss := List.take_of_length_le (by rw [HL.out]; exact Nat.le_refl _)
          rw [hss] at hmi
          clear hss
          obtain ⟨i0, hi0, hz0, hz1, hz2⟩ := info_parts info_ptr
          have hownr := own_keeps hown hki (fun b hb => ⟨own_lt hown b hb, fun e => own_smap_ne hm hown (by rw [hb, e])⟩)
          have hltb := hA1.lt
          have hBr : B ≤ wr.heap.size := by have := hmi.lt; omega
          go_wp2_with (refine wpList_append_keep rfl _ _ _ rfl B 38 i0 _ 1 8 Tryz.underlying62 hi0 hz0 hz1 hz2 rfl (by decide) (.slice ao es.length ce) es.length es rfl (hownr.alloc _) ⟨wr.heap.size, 0, none⟩ 1 1 [_] rfl rfl (World.news_of_block (heap_alloc_new _ _)) (by simp [Value.oneCell']) (by omega) (by unfold maxLen; omega) (by omega) (by first | omega | (simp; omega)) ?_)
          intro g' cap' w5 hA5
          have hnbn := own_arr_ne (T := 64) (by decide) hA1 hownr
          have hnmo := own_smap_ne hmi hownr
          have hA6 : ArrAt w5 bn 64 _ := (hA5.grown.block bn (by simp; omega) (fun e => hnbn e.symm)).trans (hA1.alloc (.cells #[.pointer (some ⟨be, 0, none⟩)] 38))
          have hm6 : SMap w5 mo (k + i) (addAll es.length ss m) := by
            obtain ⟨D, ⟨ms, clock, hb, r⟩, kk⟩ := hmi.alloc (.cells #[.pointer (some ⟨be, 0, none⟩)] 38)
            exact ⟨D, ⟨ms, clock, (hA5.grown.block mo (by have := hmi.lt; simp; omega) (fun e => hnmo e.symm)).trans hb, r⟩, kk⟩
          have hmwlt : mw < w2.heap.size := (Array.getElem?_eq_some_iff.1 hw).1
          have hkis := hki.size
          have hw6 : w5.heap[mw]? = some wire := by
            rw [hA5.grown.block mw (by simp; omega) (fun e => hne e.symm), Below.heap_alloc _ _ mw (by omega), hki.block mw hmwlt (fun e => hmw e.symm)]
            exact hw
          have hgr := hA5.grown
          have hown6 := hA5.own
          have hplace := hA5.place
          clear hA5
          have hne6 : Value.ownBlock (.slice (some ⟨g', 0, none⟩) (es.length + 1) cap') ≠ some mw := by
            rcases hplace with e | e
            · rw [e]; exact hne
            · intro h; have := e mw h; simp at this; omega
          have hnbn6 := own_arr_ne (T := 64) (by decide) hA6 hown6
          have d3 := hA6.cell 3
          simp only [List.getElem?_cons_zero, List.getElem?_cons_succ] at d3
          have f3 := hA6.frozen 3
          go_wp2
          go_ret2
          refine .inr ⟨HALL.out, be, ?_, ⟨hB, .slice (some ⟨g', 0, none⟩) (es.length + 1) cap', mo, mw, hA6.set 3 _, h2, h3, ?_, ?_, hmw, hbw, ?_, hne6⟩, ?_, ?_⟩
          · rfl
          · exact hm6.keeps (Keeps.setCell (M := (· = bn)) (Keeps.refl _ w5.heap.size w5) (p := ⟨bn, 3, none⟩) (.inl rfl) _) hm6.lt (fun e => hm6.not_arr hA6 e)
          · rw [Below.heap_setCell _ _ _ _ (fun e => hbw e.symm)]
            exact hw6
          · rw [List.length_append]
            exact own_keeps hown6 (Keeps.setCell (M := (· = bn)) (Keeps.refl _ w5.heap.size w5) (p := ⟨bn, 3, none⟩) (.inl rfl) _) (fun b hb => ⟨own_lt hown6 b hb, fun e => hnbn6 (by rw [hb, e])⟩)
          · have b1 : Below B w w2 := hb3.mono (by omega)
            have b2 : Below B w wr := b1.trans (hki.fresh (by omega) h2)
            exact ((b2.alloc hBr _).trans ⟨hgr.os, hgr.tape, hgr.output, hgr.size, fun b hb => hgr.block b (by simp; omega) (fun e => by have := own_ge hownr b e.symm; omega)⟩).setCell (p := ⟨bn, 3, none⟩) hB _
          · have a1 : ArrKeep w w2 := .of_below hb3
            have a3 : ArrKeep wr (wr.alloc (.cells #[.pointer (some ⟨be, 0, none⟩)] 38)) := .of_below ((Below.refl _ _).alloc (Nat.le_refl _) _)
            exact (((a1.trans (.of_smap hm hki)).trans a3).trans (.of_grown (hownr.alloc _) hgr)).setCell hA6 3 _
end Go.Proofs.YtjpdagfdcniphaaGreatDoor
