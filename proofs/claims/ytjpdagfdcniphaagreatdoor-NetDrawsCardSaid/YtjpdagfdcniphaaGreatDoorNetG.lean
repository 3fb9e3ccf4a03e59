/- law 21's address, config, decimal, drawn at any small number; net: Now, Wait of no endpoints, Add of an empty config -/
import Derived.Test.YtjpdagfdcniphaaGreatDoorNetF
import Derived.Laws.Closers25
set_option linter.unusedVariables false
set_option linter.unusedSimpArgs false
namespace Go.Proofs.YtjpdagfdcniphaaGreatDoor
open Go.RowKit Go.Maps

set_option maxRecDepth 100000 in
theorem law_address_at (i x : Nat) (hx : x = i + 1) (hi : i < 200) (w : World) :
    Calls Tryz.prog 17 #[.int .i64 (i : Int)] w fun e w' => e = .returned (.string (addr4 x)) ∧ Below w.heap.size w w' := by
  have hwb : IntKind.u8.wrap ((i : Int) + 1) = (x : Int) := by
    have : IntKind.u8.wrap ((i : Int) + 1) = ((i : Int) + 1) % 256 := rfl
    rw [this]; omega
  have hiI : (i : Int) < 200 := by omega
  have v1 := conv_addr w x
  have HX := Lib.hid hx
  clear hx
  go_enter Tryz.func17, Tryz.ntmps17
  go_wp2
  go_ret
  exact ⟨rfl, (Below.refl _ _).alloc (Nat.le_refl _) _⟩

set_option maxRecDepth 100000 in
set_option maxHeartbeats 1000000 in
theorem law_config_at (i x : Nat) (hx : x = i + 1) (hi : i < 200) (p : Int) (hp : p = (i : Int) + 7) (w : World) :
    Calls Tryz.prog 16 #[.int .i64 (i : Int)] w fun e w' => ∃ g, e = .returned (.agg #[.slice (some ⟨g, 0, none⟩) 1 1, .int .u16 p, .string ⟨#[107, 101, 121]⟩, .int .u32 60000, .int .u16 4]) ∧ w.heap.size ≤ g ∧ w'.cell? ⟨g, 0, none⟩ = some (.string (addr4 x)) ∧ Below w.heap.size w w' := by
  have hwp : IntKind.u16.wrap ((i : Int) + 7) = p := by
    have : IntKind.u16.wrap ((i : Int) + 7) = ((i : Int) + 7) % 65536 := rfl
    rw [this]; omega
  have hiI : (i : Int) < 200 := by omega
  have HADDR := Lib.hid (law_address_at i x hx hi)
  clear hx hp
  go_enter Tryz.func16, Tryz.ntmps16
  go_wp2_with fail
  refine (HADDR.out _).mono ?_
  rintro e w1 ⟨rfl, hb1⟩
  have hC0 : ArrAt (w.alloc (.cells #[.slice none 0 0, .int .u16 0, .string ⟨#[]⟩, .int .u32 0, .int .u16 0] 36)) w.heap.size 36 [.slice none 0 0, .int .u16 0, .string ⟨#[]⟩, .int .u32 0, .int .u16 0] := ArrAt.new w _ _
  have hC := hC0.below hb1 hC0.lt
  have hlt := hC.lt
  have hbw : Below w.heap.size w w1 := ((Below.refl _ _).alloc (Nat.le_refl _) _).trans (hb1.mono (by simp))
  clear hC0 hb1
  have c0 := hC.cell 0
  have c1 := hC.cell 1
  have c2 := hC.cell 2
  have c3 := hC.cell 3
  have c4 := hC.cell 4
  simp only [List.getElem?_cons_zero, List.getElem?_cons_succ] at c0 c1 c2 c3 c4
  have f0 := hC.frozen 0
  have f1 := hC.frozen 1
  have f2 := hC.frozen 2
  have f3 := hC.frozen 3
  have f4 := hC.frozen 4
  go_wp2_with fail
  have hF := (((((hC.set 0 (.slice (some ⟨w1.heap.size, 0, none⟩) 1 1)).set 1 (.int .u16 p)).set 2 (.string ⟨#[107, 101, 121]⟩)).set 3 (.int .u32 60000)).set 4 (.int .u16 4)).alloc (.cells #[.string (addr4 x)] 9)
  refine bodyPost_ret (v := .agg #[.slice (some ⟨w1.heap.size, 0, none⟩) 1 1, .int .u16 p, .string ⟨#[107, 101, 121]⟩, .int .u32 60000, .int .u16 4]) (results_cell_row Tryz.results16 _ _ w.heap.size 36 _ (0, 0) _ rfl hF Tryz.underlying36 rfl (by kernel_rfl)) rfl ⟨w1.heap.size, rfl, by omega, ?_, ?_⟩
  · have := ArrAt.new (((((w1.setCell ⟨w.heap.size, 0, none⟩ (.slice (some ⟨w1.heap.size, 0, none⟩) 1 1)).setCell ⟨w.heap.size, 1, none⟩ (.int .u16 p)).setCell ⟨w.heap.size, 2, none⟩ (.string ⟨#[107, 101, 121]⟩)).setCell ⟨w.heap.size, 3, none⟩ (.int .u32 60000)).setCell ⟨w.heap.size, 4, none⟩ (.int .u16 4)) [.string (addr4 x)] 9
    have h := this.cell 0
    simpa [World.setCell] using h
  · exact (((((hbw.setCell (Nat.le_refl _) _).setCell (Nat.le_refl _) _).setCell (Nat.le_refl _) _).setCell (Nat.le_refl _) _).setCell (Nat.le_refl _) _).alloc (by simp [World.setCell]; omega) _

def dig (d : Nat) : ByteArray := ⟨#[UInt8.ofNat (48 + d)]⟩
theorem ext_dig : ∀ d, d < 10 → (⟨#[48, 49, 50, 51, 52, 53, 54, 55, 56, 57]⟩ : ByteArray).extract d (d + 1) = dig d := by decide
theorem dig_size (d : Nat) (t : ByteArray) : 0 < (dig d ++ t).size := by
  rw [ByteArray.size_append]
  show 0 < 1 + t.size
  omega
theorem toList_isEmpty (s : ByteArray) (h : 0 < s.size) : s.toList.isEmpty = false := by
  rw [← decide_eq_emptyBytes s]
  refine decide_eq_false fun e => ?_
  rw [e] at h
  exact absurd h (by decide)
theorem dig_ne (d : Nat) (t : ByteArray) : (dig d ++ t).toList.isEmpty = false := toList_isEmpty _ (dig_size d t)
theorem append_empty (t : ByteArray) : t ++ (⟨#[]⟩ : ByteArray) = t := by
  apply ByteArray.ext
  simp

set_option maxRecDepth 100000 in
set_option maxHeartbeats 1000000 in
theorem law_decimal1 (n : Nat) (h0 : 0 < n) (h1 : n < 10) (w : World) :
    Calls Tryz.prog 32 #[.int .i64 (n : Int)] w fun e w' => e = .returned (.string (dig n)) ∧ w' = w := by
  have e1 := ext_dig n h1
  have e2 := dig_ne n ⟨#[]⟩
  have b0 : (0 : Int) < (n : Int) := by omega
  have b1 : (n : Int) < 10 := by omega
  have m1 : (n : Int) % 10 = (n : Int) := by omega
  have m2 : (n : Int) / 10 = 0 := by omega
  go_enter Tryz.func32, Tryz.ntmps32
  go_wp2_with fail
  refine wp_loop_rounds 2 ?_
  rw [rounds_succ]
  go_wp2
  rw [rounds_succ]
  go_wp2
  go_ret
  exact ⟨by rw [append_empty]; rfl, rfl⟩

set_option maxRecDepth 100000 in
set_option maxHeartbeats 1000000 in
theorem law_decimal2 (n a b : Nat) (ha : a = n / 10) (hb : b = n % 10) (h0 : 10 ≤ n) (h1 : n < 100) (w : World) :
    Calls Tryz.prog 32 #[.int .i64 (n : Int)] w fun e w' => e = .returned (.string (dig a ++ dig b)) ∧ w' = w := by
  have e1 := ext_dig a (by omega)
  have e2 := ext_dig b (by omega)
  have e3 := dig_ne b ⟨#[]⟩
  have e4 := dig_ne a (dig b ++ ⟨#[]⟩)
  have b0 : (10 : Int) ≤ (n : Int) := by omega
  have b1 : (n : Int) < 100 := by omega
  have a0 : (0 : Int) < (a : Int) := by omega
  have a1 : (a : Int) < 10 := by omega
  have b2 : (b : Int) < 10 := by omega
  have m1 : (n : Int) % 10 = (b : Int) := by omega
  have m2 : (n : Int) / 10 = (a : Int) := by omega
  have m3 : (a : Int) % 10 = (a : Int) := by omega
  have m4 : (a : Int) / 10 = 0 := by omega
  clear ha hb
  go_enter Tryz.func32, Tryz.ntmps32
  go_wp2_with fail
  refine wp_loop_rounds 3 ?_
  rw [rounds_succ]
  go_wp2
  rw [rounds_succ]
  go_wp2
  rw [rounds_succ]
  go_wp2
  go_ret
  exact ⟨by rw [append_empty]; rfl, rfl⟩

theorem law_decimal (n : Nat) (h : n < 100) (w : World) :
    Calls Tryz.prog 32 #[.int .i64 (n : Int)] w fun e w' => e = .returned (.string ⟨(Lib.decDigits n).toArray⟩) ∧ w' = w := by
  by_cases h0 : n = 0
  · subst h0
    refine (law_decimal0 w).mono ?_
    rintro e w' ⟨rfl, rfl⟩
    rw [Lib.decDigits_one (by omega)]
    exact ⟨rfl, rfl⟩
  · by_cases h1 : n < 10
    · refine (law_decimal1 n (by omega) h1 w).mono ?_
      rintro e w' ⟨rfl, rfl⟩
      rw [Lib.decDigits_one h1]
      exact ⟨rfl, rfl⟩
    · refine (law_decimal2 n (n / 10) (n % 10) rfl rfl (by omega) h w).mono ?_
      rintro e w' ⟨rfl, rfl⟩
      rw [Lib.decDigits_two h1 h]
      exact ⟨rfl, rfl⟩

set_option maxRecDepth 100000 in
set_option maxHeartbeats 1000000 in
theorem law_drawn (seed : ByteArray) (hs : seed.size < 1000) (k : Nat) (hk : k < 100) (w : World) :
    Calls Tryz.prog 13 #[.string seed, .int .i64 (k : Int)] w fun e w' => e = .returned (.int .u32 (drawWord (drawText seed k))) ∧ Below w.heap.size w w' := by
  obtain ⟨ds, hds⟩ : ∃ ds : ByteArray, ds = ⟨(Lib.decDigits k).toArray⟩ := ⟨_, rfl⟩
  have hdsz : ds.size < 100 := by
    have e : ds.size = (Lib.decDigits k).length := by rw [hds]; simp [ByteArray.size]
    rw [e]
    by_cases h10 : k < 10
    · rw [Lib.decDigits_one h10]; simp
    · rw [Lib.decDigits_two h10 hk]; simp
  have hdec := law_decimal k hk
  rw [← hds] at hdec
  have HD := Lib.hid hdec
  obtain ⟨t, ht⟩ : ∃ t, Hid (t = drawText seed k) := ⟨_, Lib.hid rfl⟩
  have htsz : t.size < 2000 := by rw [ht.out, drawText, ← hds, ByteArray.size_append, ByteArray.size_append]; show seed.size + 1 + _ < _; omega
  have hcat1 : ∀ w : World, (Op.stringOp .add seed (⟨#[47]⟩ : ByteArray)).run Tryz.prog w = .ok (.string (seed ++ ⟨#[47]⟩)) w := fun w => run_string_add_sum w _ _ (by show seed.size + 1 ≤ _; omega)
  have hcat2 : ∀ w : World, (Op.stringOp .add (seed ++ (⟨#[47]⟩ : ByteArray)) ds).run Tryz.prog w = .ok (.string t) w := fun w => by
    rw [ht.out, drawText, ← hds]; exact run_string_add_sum w _ _ (by rw [ByteArray.size_append]; show seed.size + 1 + _ ≤ _; omega)
  rw [← ht.out]
  clear hdec hds
  go_enter Tryz.func13, Tryz.ntmps13
  go_wp2_with fail
  refine (HD.out _).mono ?_
  rintro e w1 ⟨rfl, rfl⟩
  go_wp2_with fail
  refine (ref_sum t (by omega) _).mono ?_
  rintro e w2 ⟨rfl, hb2⟩
  obtain ⟨d, hd⟩ : ∃ d : ByteArray, d = strOfNums (ShaS.sum (bytesOf t)) := ⟨_, rfl⟩
  have hds : 4 ≤ d.size := by rw [hd, strOfNums_size, ShaS.sum_length]; decide
  have hdb : ShaS.word (bytesOf d) 0 = drawWord t := by rw [hd, bytesOf_strOfNums (fun x hx => ShaS.sum_bytes _ x hx)]; rfl
  rw [← hd]
  clear hd
  have HDB := Lib.hid hdb
  clear hdb
  go_wp2_with fail
  refine (law_number d hds _).mono ?_
  rintro e w3 ⟨rfl, hb3⟩
  rw [HDB.out]
  go_wp2
  go_ret
  exact ⟨rfl, hb2.trans (hb3.mono hb2.size)⟩

set_option maxRecDepth 100000 in
theorem net_now (B bn k : Nat) (seed : ByteArray) (drawn now last : Int) (es : List Value) (m : ByteArray → Option Int) (wire : Obj) (w : World) (h : NetAt B bn seed drawn now last es k m wire w) :
    Calls Tryz.prog 14 #[.pointer (some ⟨bn, 0, none⟩)] w fun e w' => e = .returned (.int .i64 now) ∧ w' = w := by
  obtain ⟨_, _, _, _, h1, _⟩ := h
  have c2 := h1.cell 2
  simp only [List.getElem?_cons_zero, List.getElem?_cons_succ] at c2
  go_enter Tryz.func14, Tryz.ntmps14
  go_wp2
  go_ret
  exact ⟨rfl, rfl⟩

/-- A Net's time, when one waits. -/
def waited (now ms : Int) : Int := if 1 ≤ ms ∧ ms ≤ 1073741824 ∧ now + ms ≤ 1099511627776 then now + ms else now
theorem waited_range {now ms : Int} (h0 : 0 ≤ now) (h1 : now ≤ 1099511627776) : 0 ≤ waited now ms ∧ waited now ms ≤ 1099511627776 := by
  unfold waited
  split <;> omega

theorem NetAt.setNow {B bn k : Nat} {seed : ByteArray} {drawn now last : Int} {es : List Value} {m : ByteArray → Option Int} {wire : Obj} {w : World} (h : NetAt B bn seed drawn now last es k m wire w) (x : Int) :
    NetAt B bn seed drawn x last es k m wire (w.setCell ⟨bn, 2, none⟩ (.int .i64 x)) := by
  obtain ⟨h0, ev, mo, mw, h1, g2, g3, g4, g5, g6, g7, g8, g9⟩ := h
  refine ⟨h0, ev, mo, mw, by have := h1.set 2 (.int .i64 x); exact this, g2, g3, ?_, ?_, g6, g7, ?_, g9⟩
  · exact g4.keeps (Keeps.setCell (M := (· = bn)) (Keeps.refl _ w.heap.size w) (p := ⟨bn, 2, none⟩) (.inl rfl) _) g4.lt (fun e => g4.not_arr h1 e)
  · rw [Below.heap_setCell _ _ _ _ (fun e => g7 e.symm)]; exact g5
  · exact own_keeps g8 (Keeps.setCell (M := (· = bn)) (Keeps.refl _ w.heap.size w) (p := ⟨bn, 2, none⟩) (.inl rfl) _) (fun b hb => ⟨own_lt g8 b hb, fun e => own_arr_ne (T := 64) (by decide) h1 g8 (by rw [hb, e])⟩)

set_option maxRecDepth 100000 in
set_option maxHeartbeats 1000000 in
/-- Wait, where there are no endpoints. -/
theorem net_wait0 (B bn k : Nat) (seed : ByteArray) (drawn now last : Int) (m : ByteArray → Option Int) (wire : Obj) (w : World) (h : NetAt B bn seed drawn now last [] k m wire w) (ms : Int) (hn0 : 0 ≤ now) (hn1 : now ≤ 1099511627776) :
    Calls Tryz.prog 15 #[.pointer (some ⟨bn, 0, none⟩), .int .i64 ms] w fun e w' => e = .returned (.tuple #[]) ∧ NetAt B bn seed drawn (waited now ms) last [] k m wire w' ∧ Below B w w' := by
  have H := Lib.hid h
  obtain ⟨hB, ev, mo, mw, h1, _, _, _, _, _, _, hown, _⟩ := h
  obtain ⟨ao, c, rfl⟩ := own_form hown
  have c2 := h1.cell 2
  have c3 := h1.cell 3
  have f2 := h1.frozen 2
  simp only [List.getElem?_cons_zero, List.getElem?_cons_succ, List.length_nil] at c2 c3
  clear hown h1
  by_cases hms : ms < 1
  · have e : waited now ms = now := by unfold waited; rw [if_neg (by omega)]
    rw [e]
    go_enter Tryz.func15, Tryz.ntmps15
    go_wp2
    refine bodyPost_ret (results_none rfl _ _ _) rfl ?_
    exact ⟨rfl, H.out, Below.refl _ _⟩
  · by_cases hbig : 1073741824 < ms
    · have e : waited now ms = now := by unfold waited; rw [if_neg (by omega)]
      rw [e]
      go_enter Tryz.func15, Tryz.ntmps15
      go_wp2
      refine bodyPost_ret (results_none rfl _ _ _) rfl ?_
      exact ⟨rfl, H.out, Below.refl _ _⟩
    · have hle : ms ≤ 1073741824 := by omega
      by_cases hsum : 1099511627776 < now + ms
      · have e : waited now ms = now := by unfold waited; rw [if_neg (by omega)]
        rw [e]
        go_enter Tryz.func15, Tryz.ntmps15
        go_wp2
        refine bodyPost_ret (results_none rfl _ _ _) rfl ?_
        exact ⟨rfl, H.out, Below.refl _ _⟩
      · have e : waited now ms = now + ms := by unfold waited; rw [if_pos (by omega)]
        rw [e]
        go_enter Tryz.func15, Tryz.ntmps15
        go_wp2_with fail
        refine wp_loop_rounds 1 ?_
        rw [rounds_succ]
        go_wp2
        go_end0
        exact ⟨rfl, H.out.setNow _, (Below.refl _ _).setCell hB _⟩
end Go.Proofs.YtjpdagfdcniphaaGreatDoor
