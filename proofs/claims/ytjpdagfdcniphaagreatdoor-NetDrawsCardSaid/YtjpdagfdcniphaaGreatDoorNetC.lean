/- law 21's small functions: number, address, config, decimal, drawn; net: Deliver of nothing -/
import Derived.Test.YtjpdagfdcniphaaGreatDoorShaF
import Derived.Test.YtjpdagfdcniphaaGreatDoorShaL
import Derived.Test.YtjpdagfdcniphaaGreatDoorNetB
set_option linter.unusedVariables false
set_option linter.unusedSimpArgs false
namespace Go.Proofs.YtjpdagfdcniphaaGreatDoor
open Go.RowKit Go.Maps

set_option maxRecDepth 100000 in
set_option maxHeartbeats 2000000 in
theorem law_number (s : ByteArray) (hs : 4 ≤ s.size) (w : World) :
    Calls Tryz.prog 30 #[.string s] w fun e w' => e = .returned (.int .u32 (ShaS.word (bytesOf s) 0)) ∧ Below w.heap.size w w' := by
  obtain ⟨b0, B0, r0, p0⟩ := byte_at (P := Tryz.prog) s 0 0 rfl (by omega) 9 Tryz.underlying9
  obtain ⟨b1, B1, r1, p1⟩ := byte_at (P := Tryz.prog) s 1 1 rfl (by omega) 9 Tryz.underlying9
  obtain ⟨b2, B2, r2, p2⟩ := byte_at (P := Tryz.prog) s 2 2 rfl (by omega) 9 Tryz.underlying9
  obtain ⟨b3, B3, r3, p3⟩ := byte_at (P := Tryz.prog) s 3 3 rfl (by omega) 9 Tryz.underlying9
  go_enter Tryz.func30, Tryz.ntmps30
  go_wp2_with fail
  rename_i hK0
  refine wp_region_still_lit (by kernel_rfl) (by kernel_rfl) ?_
  repeat still_step
  refine wpStill_nil ?_
  refine hK0 _ _ ?_
  go_wp2
  go_ret
  refine ⟨?_, Below.drew (Below.refl _ w)⟩
  show Ending.returned (.int .u32 (bits .or .u32 (bits .or .u32 (bits .or .u32 (IntKind.u32.wrap (IntKind.u32.wrap b0 * 16777216)) (IntKind.u32.wrap (IntKind.u32.wrap b1 * 65536))) (IntKind.u32.wrap (IntKind.u32.wrap b2 * 256))) (IntKind.u32.wrap b3))) = _
  have e0 : IntKind.u32.wrap b0 = b0 := by rw [wrap_u32]; omega
  have e1 : IntKind.u32.wrap b1 = b1 := by rw [wrap_u32]; omega
  have e2 : IntKind.u32.wrap b2 = b2 := by rw [wrap_u32]; omega
  have e3 : IntKind.u32.wrap b3 = b3 := by rw [wrap_u32]; omega
  have h := ShaS.join4w _ _ _ _ p0 p1 p2 p3
  rw [B0.out, B1.out, B2.out, B3.out] at h ⊢
  rw [B0.out] at e0
  rw [B1.out] at e1
  rw [B2.out] at e2
  rw [B3.out] at e3
  congr 2

set_option maxRecDepth 100000 in
theorem law_address (w : World) :
    Calls Tryz.prog 17 #[.int .i64 0] w fun e w' => e = .returned (.string ⟨#[10, 0, 0, 1]⟩) ∧ Below w.heap.size w w' := by
  have hown := World.ownsRow_lit (e := 5) (base := w.heap.size) (size := 1) w #[.int .u8 10, .int .u8 0, .int .u8 0, .int .u8 1] 4 (Nat.le_refl _) (by decide) rfl
  have hc := conv_own (P := Tryz.prog) _ 28 9 5 Tryz.underlying28 Tryz.underlying5 Tryz.underlying9 _ _ _ [10, 0, 0, 1] hown
  go_enter Tryz.func17, Tryz.ntmps17
  go_wp2
  go_ret
  exact ⟨rfl, (Below.refl _ _).alloc (Nat.le_refl _) _⟩

set_option maxRecDepth 100000 in
theorem net_deliver_none (B bn k : Nat) (seed : ByteArray) (drawn now last : Int) (es : List Value) (m : ByteArray → Option Int) (w : World) (h : NetAt B bn seed drawn now last es k m (.map #[] 0) w) :
    Calls Tryz.prog 26 #[.pointer (some ⟨bn, 0, none⟩), .int .i64 1] w fun e w' => e = .returned (.int .i64 8) ∧ w' = w := by
  obtain ⟨h0, ev, mo, mw, h1, _, _, _, hw, _⟩ := h
  have c5 := h1.cell 5
  simp only [List.getElem?_cons_zero, List.getElem?_cons_succ] at c5
  have hlook : (Instr.lookup 61 (.map (some mw)) (.int .i64 1) false).run Tryz.prog w = .ok (.pointer none) w := by
    have hz : (zeroValue 86).run Tryz.prog w = .ok (.pointer none) w := by kernel_rfl
    have hown : w.ownsMap (H := Unit) Tryz.prog 3 (fun v => match v with | .pointer none => some (.lit (.bool true), []) | _ => none) mw 0 (.map []) := ⟨#[], 0, hw, ⟨by simp, MapKept.stamped_empty 0, by simp⟩, Nat.le_refl _, rfl⟩
    obtain ⟨v, ps, hrun, hv⟩ := hown.lookup law_int Tryz.underlying61 hz (zd := .lit (.bool true)) (zp := []) rfl (keyOf_int_mk Tryz.underlying3 (a := 1) (by decide))
    split at hv
    · exact hrun
    · cases hv
  go_enter Tryz.func26, Tryz.ntmps26
  go_wp2
  go_ret
  exact ⟨rfl, rfl⟩

set_option maxRecDepth 100000 in
set_option maxHeartbeats 1000000 in
theorem law_config (w : World) :
    Calls Tryz.prog 16 #[.int .i64 0] w fun e w' => ∃ g, e = .returned (.agg #[.slice (some ⟨g, 0, none⟩) 1 1, .int .u16 7, .string ⟨#[107, 101, 121]⟩, .int .u32 60000, .int .u16 4]) ∧ w.heap.size ≤ g ∧ w'.cell? ⟨g, 0, none⟩ = some (.string ⟨#[10, 0, 0, 1]⟩) ∧ Below w.heap.size w w' := by
  go_enter Tryz.func16, Tryz.ntmps16
  go_wp2_with ((go_at_call 17; refine (law_address _).mono ?_))
  rintro e w1 ⟨rfl, hb1⟩
  have hC0 : ArrAt (w.alloc (.cells #[.slice none 0 0, .int .u16 0, .string ⟨#[]⟩, .int .u32 0, .int .u16 0] 36)) w.heap.size 36 [.slice none 0 0, .int .u16 0, .string ⟨#[]⟩, .int .u32 0, .int .u16 0] := ArrAt.new w _ _
  have hC := hC0.below hb1 hC0.lt
  have hlt := hC.lt
  have hbw : Below w.heap.size w w1 := ((Below.refl _ _).alloc (Nat.le_refl _) _).trans (hb1.mono (by simp))
  clear hC0 hb1
  have c0 := hC.cell 0
  have c1 := hC.cell 1
  have c2 := hC.cell 2
  have c3 := hC.cell 3
  have c4 := hC.cell 4
  simp only [List.getElem?_cons_zero, List.getElem?_cons_succ] at c0 c1 c2 c3 c4
  have f0 := hC.frozen 0
  have f1 := hC.frozen 1
  have f2 := hC.frozen 2
  have f3 := hC.frozen 3
  have f4 := hC.frozen 4
  go_wp2_with fail
  have hF := (((((hC.set 0 (.slice (some ⟨w1.heap.size, 0, none⟩) 1 1)).set 1 (.int .u16 7)).set 2 (.string ⟨#[107, 101, 121]⟩)).set 3 (.int .u32 60000)).set 4 (.int .u16 4)).alloc (.cells #[.string ⟨#[10, 0, 0, 1]⟩] 9)
  refine bodyPost_ret (v := .agg #[.slice (some ⟨w1.heap.size, 0, none⟩) 1 1, .int .u16 7, .string ⟨#[107, 101, 121]⟩, .int .u32 60000, .int .u16 4]) (results_cell_row Tryz.results16 _ _ w.heap.size 36 _ (0, 0) _ rfl hF Tryz.underlying36 rfl (by kernel_rfl)) rfl ⟨w1.heap.size, rfl, by omega, ?_, ?_⟩
  · have := ArrAt.new (((((w1.setCell ⟨w.heap.size, 0, none⟩ (.slice (some ⟨w1.heap.size, 0, none⟩) 1 1)).setCell ⟨w.heap.size, 1, none⟩ (.int .u16 7)).setCell ⟨w.heap.size, 2, none⟩ (.string ⟨#[107, 101, 121]⟩)).setCell ⟨w.heap.size, 3, none⟩ (.int .u32 60000)).setCell ⟨w.heap.size, 4, none⟩ (.int .u16 4)) [.string ⟨#[10, 0, 0, 1]⟩] 9
    have h := this.cell 0
    simpa [World.setCell] using h
  · exact (((((hbw.setCell (Nat.le_refl _) _).setCell (Nat.le_refl _) _).setCell (Nat.le_refl _) _).setCell (Nat.le_refl _) _).setCell (Nat.le_refl _) _).alloc (by simp [World.setCell]; omega) _

set_option maxRecDepth 100000 in
set_option maxHeartbeats 1000000 in
theorem law_decimal0 (w : World) :
    Calls Tryz.prog 32 #[.int .i64 0] w fun e w' => e = .returned (.string ⟨#[48]⟩) ∧ w' = w := by
  go_enter Tryz.func32, Tryz.ntmps32
  go_wp2_with fail
  refine wp_loop_rounds 2 ?_
  rw [rounds_succ]
  go_wp2
  rw [show ((⟨#[48, 49, 50, 51, 52, 53, 54, 55, 56, 57]⟩ : ByteArray).extract 0 1 ++ (⟨#[]⟩ : ByteArray)) = ⟨#[48]⟩ by decide]
  rw [rounds_succ]
  go_wp2
  go_ret
  exact ⟨rfl, rfl⟩

/-- The k-th number of a seed, k one digit's text. -/
def drawWord (t : ByteArray) : Int := ShaS.word (ShaS.sum (bytesOf t)) 0

set_option maxRecDepth 100000 in
set_option maxHeartbeats 1000000 in
theorem law_drawn0 (w : World) :
    Calls Tryz.prog 13 #[.string ⟨#[115, 101, 101, 100]⟩, .int .i64 0] w fun e w' => e = .returned (.int .u32 (drawWord ⟨#[115, 101, 101, 100, 47, 48]⟩)) ∧ Below w.heap.size w w' := by
  go_enter Tryz.func13, Tryz.ntmps13
  go_wp2_with ((go_at_call 32; refine (law_decimal0 _).mono ?_; rintro e w1 ⟨rfl, rfl⟩))
  have et : ((⟨#[115, 101, 101, 100]⟩ : ByteArray) ++ (⟨#[47]⟩ : ByteArray) ++ (⟨#[48]⟩ : ByteArray)) = ⟨#[115, 101, 101, 100, 47, 48]⟩ := by decide
  rw [et]
  obtain ⟨t, ht⟩ : ∃ t : ByteArray, Hid (t = ⟨#[115, 101, 101, 100, 47, 48]⟩) := ⟨_, Lib.hid rfl⟩
  rw [← ht.out]
  refine (ref_sum t (by rw [ht.out]; decide) _).mono ?_
  rintro e w2 ⟨rfl, hb2⟩
  obtain ⟨d, hd⟩ : ∃ d : ByteArray, d = strOfNums (ShaS.sum (bytesOf t)) := ⟨_, rfl⟩
  have hds : 4 ≤ d.size := by rw [hd, strOfNums_size, ShaS.sum_length]; decide
  have hdb : ShaS.word (bytesOf d) 0 = drawWord t := by rw [hd, bytesOf_strOfNums (fun x hx => ShaS.sum_bytes _ x hx)]; rfl
  rw [← hd]
  clear hd
  have HDB := Lib.hid hdb
  clear hdb
  go_wp2_with ((go_at_call 30; refine (law_number d hds _).mono ?_))
  rintro e w3 ⟨rfl, hb3⟩
  rw [HDB.out]
  go_wp2
  go_ret
  exact ⟨by rw [← ht.out]; rfl, hb2.trans (hb3.mono hb2.size)⟩
end Go.Proofs.YtjpdagfdcniphaaGreatDoor
