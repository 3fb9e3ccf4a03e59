/- sock.New, of one or two addresses of four bytes each -/
import Derived.Test.YtjpdagfdcniphaaGreatDoorKeep
import Derived.Test.YtjpdagfdcniphaaGreatDoorShelf
import Derived.Deep.DeepCutAuto
set_option linter.unusedVariables false
set_option linter.unusedSimpArgs false
namespace Go.Proofs.YtjpdagfdcniphaaGreatDoor
open Go.RowKit

set_option maxRecDepth 100000 in
theorem sock_new1 (s : ByteArray) (bn n : Nat) (w : World) (hc : w.cell? ⟨bn, 0, none⟩ = some (.int .i64 n)) :
    Calls Tryz.prog 47 #[.string s, .pointer (some ⟨bn, 0, none⟩)] w fun e w' => e = .returned (.bool ((s.size : Int) != (n : Int))) ∧ w' = w := by
  go_enter Tryz.func47, Tryz.ntmps47
  go_wp2
  go_ret
  exact ⟨rfl, rfl⟩

set_option maxRecDepth 100000 in
set_option maxHeartbeats 1000000 in
theorem indexFunc (g n c bn : Nat) (ss : List ByteArray) (hl : ss.length = n) (h4 : ∀ s ∈ ss, s.size = 4) (w : World) (hn : n < 1000) (hs : ∀ j, j < n → w.cell? ⟨g, j, none⟩ = some (.string (ss.getD j .empty))) (hc : w.cell? ⟨bn, 0, none⟩ = some (.int .i64 4)) :
    Calls Tryz.prog 79 #[.slice (some ⟨g, 0, none⟩) n c, .func (.func 47) #[] #[.pointer (some ⟨bn, 0, none⟩)]] w fun e w' => e = .returned (.int .i64 (-1)) ∧ w' = w := by
  have HS := Lib.hid hs
  have H4 := Lib.hid h4
  have HL := Lib.hid hl
  clear hs h4 hl
  go_enter Tryz.func79, Tryz.ntmps79
  go_wp2_with fail
  go_loopw [8] (fun i wr => ∃ j : Nat, j ≤ n ∧ i = .int .i64 (j : Int) ∧ wr = w) (fun i _ => (n - intOf i).toNat)
  case atStart => exact ⟨0, by omega, rfl, rfl⟩
  case round =>
    obtain ⟨j, hj, rfl, rfl⟩ := hrel
    by_cases hlt : j < n
    · obtain ⟨s, hsj⟩ : ∃ s, s = ss.getD j .empty := ⟨_, rfl⟩
      have hcs := HS.out j hlt
      rw [← hsj] at hcs
      have hsz : s.size = 4 := by
        rw [hsj]
        have hjl : j < ss.length := by rw [HL.out]; exact hlt
        rw [List.getD_eq_getElem?_getD, List.getElem?_eq_getElem hjl]
        exact H4.out _ (List.getElem_mem hjl)
      have HSZ := Lib.hid hsz
      clear hsj hsz
      have hjI : (j : Int) < (n : Int) := by omega
      go_wp2_with fail
      refine (sock_new1 s bn 4 _ (by assumption)).mono ?_
      rintro e w1 ⟨rfl, rfl⟩
      rw [HSZ.out, show (((4 : Nat) : Int) != ((4 : Nat) : Int)) = false from rfl]
      go_wp2
      go_roundw
      case rel => exact ⟨j + 1, by omega, by go_num, trivial⟩
      case measure => simp [intOf]; omega
    · have hjn : j = n := by omega
      subst hjn
      go_wp2
      go_ret
      exact ⟨rfl, rfl⟩

set_option maxRecDepth 100000 in
set_option maxHeartbeats 1000000 in
theorem containsFunc (g n c bn : Nat) (ss : List ByteArray) (hl : ss.length = n) (h4 : ∀ s ∈ ss, s.size = 4) (w : World) (hn : n < 1000) (hs : ∀ j, j < n → w.cell? ⟨g, j, none⟩ = some (.string (ss.getD j .empty))) (hc : w.cell? ⟨bn, 0, none⟩ = some (.int .i64 4)) :
    Calls Tryz.prog 46 #[.slice (some ⟨g, 0, none⟩) n c, .func (.func 47) #[] #[.pointer (some ⟨bn, 0, none⟩)]] w fun e w' => e = .returned (.bool false) ∧ w' = w := by
  have H := Lib.hid (indexFunc g n c bn ss hl h4 w hn hs hc)
  clear hl h4 hs hc
  go_enter Tryz.func46, Tryz.ntmps46
  go_wp2_with fail
  refine H.out.mono ?_
  rintro e w1 ⟨rfl, rfl⟩
  go_wp2
  go_ret
  exact ⟨by simp, rfl⟩

set_option maxRecDepth 100000 in
set_option maxHeartbeats 1000000 in
/-- Of the Keys only that no other block turns. -/
theorem keys_turn (be off : Nat) (s : ByteArray) (now : Int) (x y : Value) (w : World) (h0 : w.cell? ⟨be, off, none⟩ = some (.slice none 0 0)) (h1 : w.cell? ⟨be, off + 1, none⟩ = some y) (hf : ∀ j, w.frozen? ⟨be, j, none⟩ = false) :
    Calls Tryz.prog 49 #[.pointer (some ⟨be, off, none⟩), .string s, .int .i64 now] w fun e w' => e = .returned (.tuple #[]) ∧ Keeps (· = be) w.heap.size w w' := by
  have hlt := block_lt_of_cell h0
  have hf0 := hf off
  have hf1 := hf (off + 1)
  clear hf
  go_enter Tryz.func49, Tryz.ntmps49
  go_wp2
  go_end0
  refine ⟨rfl, Keeps.alloc (Keeps.setCell (M := (· = be)) (Keeps.setCell (M := (· = be)) (Keeps.refl _ _ w) (p := ⟨be, off, none⟩) (.inl rfl) _) (p := ⟨be, off + 1, none⟩) (.inl rfl) _) (by simp [World.setCell]) _⟩

set_option maxRecDepth 100000 in
set_option maxHeartbeats 2000000 in
theorem sock_new (g n c : Nat) (ss : List ByteArray) (key : ByteArray) (port window streams now : Int) (hl : ss.length = n) (h4 : ∀ s ∈ ss, s.size = 4) (w : World) (h0 : 0 < n) (hn : n < 1000) (hs : ∀ j, j < n → w.cell? ⟨g, j, none⟩ = some (.string (ss.getD j .empty)))
    (hp : port ≠ 0) (hs1 : 1 ≤ streams) (hs2 : streams ≤ 16) :
    Calls Tryz.prog 27 #[.agg #[.slice (some ⟨g, 0, none⟩) n c, .int .u16 port, .string key, .int .u32 window, .int .u16 streams], .int .i64 now] w fun e w' => ∃ be, e = .returned (.tuple #[.pointer (some ⟨be, 0, none⟩), .int .i64 0]) ∧ Below w.heap.size w w' := by
  have hs0 := hs 0 h0
  obtain ⟨s0, hs0e⟩ : ∃ s, s = ss.getD 0 .empty := ⟨_, rfl⟩
  rw [← hs0e] at hs0
  have hsz0 : s0.size = 4 := by
    rw [hs0e, List.getD_eq_getElem?_getD, List.getElem?_eq_getElem (by omega)]
    exact h4 _ (List.getElem_mem _)
  have hglt := block_lt_of_cell hs0
  have hszI : (s0.size : Int) = 4 := by omega
  have HS := Lib.hid hs
  have H4 := Lib.hid h4
  have HL := Lib.hid hl
  clear hs h4 hl hs0e
  have hb1 : ((n : Int) == 0) = false := by rw [beq_eq_false_iff_ne]; omega
  have hb2 : (port == 0) = false := by rw [beq_eq_false_iff_ne]; exact hp
  have hb3 : ¬ streams < 1 := by omega
  have hb4 : ¬ 16 < streams := by omega
  go_enter Tryz.func27, Tryz.ntmps27
  go_wp2_with fail
  refine (containsFunc g n c _ ss HL.out H4.out _ hn ?_ ?_).mono ?_
  · intro j hj
    rw [World.cell?_alloc_lt _ _ _ (by simp; omega), World.cell?_alloc_lt _ _ _ hglt]
    exact HS.out j hj
  · simp
  rintro e w1 ⟨rfl, rfl⟩
  go_wp2_with fail
  have hC : ArrAt ((w.alloc (.cells #[.slice (some ⟨g, 0, none⟩) n c, .int .u16 port, .string key, .int .u32 window, .int .u16 streams] 36)).alloc (.cells #[.int .i64 4] 3)) w.heap.size 36 [.slice (some ⟨g, 0, none⟩) n c, .int .u16 port, .string key, .int .u32 window, .int .u16 streams] := (ArrAt.new w _ _).alloc _
  have hbel : Below w.heap.size w ((w.alloc (.cells #[.slice (some ⟨g, 0, none⟩) n c, .int .u16 port, .string key, .int .u32 window, .int .u16 streams] 36)).alloc (.cells #[.int .i64 4] 3)) := ((Below.refl _ _).alloc (Nat.le_refl _) _).alloc (by simp) _
  refine (Tryz.slices_Clone_string g 0 n c ss _ (by rw [HL.out]; exact Nat.le_refl _) (by omega) ?_).mono ?_
  · intro j hj
    rw [Nat.zero_add, World.cell?_alloc_lt _ _ _ (by simp; omega), World.cell?_alloc_lt _ _ _ hglt]
    exact HS.out j (by rw [← HL.out]; exact hj)
  rintro e w2 ⟨v', rfl, hv, _, hb2⟩
  obtain ⟨g2, cp2, rfl, _⟩ := hv.form h0
  replace hC := hC.below hb2 (by simp; omega)
  replace hbel := hbel.trans (hb2.mono (by simp; omega))
  have hf0 := hC.frozen 0
  have hlt2 := hC.lt
  have c0 := hC.cell 0
  have c1 := hC.cell 1
  have c2 := hC.cell 2
  have c3 := hC.cell 3
  have c4 := hC.cell 4
  simp only [List.getElem?_cons_zero, List.getElem?_cons_succ] at c0 c1 c2 c3 c4
  clear hv hb2
  go_wp2_with fail
  rename_i hK1
  have hE : ArrAt ((w2.setCell ⟨w.heap.size, 0, none⟩ (.slice (some ⟨g2, 0, none⟩) n cp2)).alloc (.cells #[.slice (some ⟨g2, 0, none⟩) n cp2, .int .u16 port, .string key, .int .u32 window, .int .u16 streams, .bool false, .slice none 0 0, .int .i64 0, .slice none 0 0, .slice none 0 0] 103)) w2.heap.size 103
      [.slice (some ⟨g2, 0, none⟩) n cp2, .int .u16 port, .string key, .int .u32 window, .int .u16 streams, .bool false, .slice none 0 0, .int .i64 0, .slice none 0 0, .slice none 0 0] := by
    have := ArrAt.new (w2.setCell ⟨w.heap.size, 0, none⟩ (.slice (some ⟨g2, 0, none⟩) n cp2)) [.slice (some ⟨g2, 0, none⟩) n cp2, .int .u16 port, .string key, .int .u32 window, .int .u16 streams, .bool false, .slice none 0 0, .int .i64 0, .slice none 0 0, .slice none 0 0] 103
    rw [show (w2.setCell ⟨w.heap.size, 0, none⟩ (.slice (some ⟨g2, 0, none⟩) n cp2)).heap.size = w2.heap.size by simp [World.setCell]] at this
    exact this
  have hC2 := (hC.set 0 (.slice (some ⟨g2, 0, none⟩) n cp2)).alloc (.cells #[.slice (some ⟨g2, 0, none⟩) n cp2, .int .u16 port, .string key, .int .u32 window, .int .u16 streams, .bool false, .slice none 0 0, .int .i64 0, .slice none 0 0, .slice none 0 0] 103)
  have hbel2 : Below w.heap.size w ((w2.setCell ⟨w.heap.size, 0, none⟩ (.slice (some ⟨g2, 0, none⟩) n cp2)).alloc (.cells #[.slice (some ⟨g2, 0, none⟩) n cp2, .int .u16 port, .string key, .int .u32 window, .int .u16 streams, .bool false, .slice none 0 0, .int .i64 0, .slice none 0 0, .slice none 0 0] 103)) :=
    (hbel.setCell (Nat.le_refl _) _).alloc (by simp [World.setCell]; omega) _
  refine hide_world (C := fun v => Code.wp _ _ _ _ v) (P := fun v => ArrAt v w2.heap.size 103 [.slice (some ⟨g2, 0, none⟩) n cp2, .int .u16 port, .string key, .int .u32 window, .int .u16 streams, .bool false, .slice none 0 0, .int .i64 0, .slice none 0 0, .slice none 0 0] ∧ v.cell? ⟨w.heap.size, 2, none⟩ = some (.string key) ∧ Below w.heap.size w v) ⟨hE, hC2.cell 2, hbel2⟩ ?_
  rintro w3 ⟨hE, e2, hbel3⟩
  clear hC hC2 hbel hbel2 c0 c1 c2 c3 c4 hf0
  have k6 := hE.cell 6
  have k7 := hE.cell 7
  simp only [List.getElem?_cons_zero, List.getElem?_cons_succ] at k6 k7
  have hfz := hE.frozen
  refine wp_region_still_tail 6 (by kernel_rfl) (by kernel_rfl) ?_
  simp only [List.take_succ_cons, List.take_zero, List.drop_succ_cons, List.drop_zero]
  repeat still_step
  refine wpStill_nil ?_
  change wpList _ _ _ _ _ w3.drew
  (refine wpList_plain rfl fun K hK => ?_; go_simp; refine (keys_turn w2.heap.size 6 key now undef (.int .i64 0) _ (by exact k6) (by exact k7) (by exact hfz)).mono ?_; rintro e w4 ⟨rfl, hk4⟩; refine hK _ _ ?_; clear hK K; (try simp only [Act.put, List.setIfInBounds_toArray, List.set_cons_zero, List.set_cons_succ]))
  refine wpList_nil ?_
  refine hK1 _ _ ?_
  try simp only [Act.put, List.setIfInBounds_toArray, List.set_cons_zero, List.set_cons_succ]
  go_wp2
  go_ret2
  exact ⟨_, rfl, (Below.drew hbel3).trans (hk4.fresh (by have := hbel3.size; exact this) (by omega))⟩
end Go.Proofs.YtjpdagfdcniphaaGreatDoor
