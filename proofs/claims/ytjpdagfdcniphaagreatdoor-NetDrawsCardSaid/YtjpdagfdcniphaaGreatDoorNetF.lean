/- law 21: NetOwners, walked -/
import Derived.Test.YtjpdagfdcniphaaGreatDoorNetE
set_option linter.unusedVariables false
set_option linter.unusedSimpArgs false
namespace Go.Proofs.YtjpdagfdcniphaaGreatDoor
open Go.RowKit Go.Maps

/-- The address 10.0.0.x. -/
def addr4 (x : Nat) : ByteArray := strOfNums [10, 0, 0, (x : Int)]
theorem addr4_size (x : Nat) : (addr4 x).size = 4 := by rw [addr4, strOfNums_size]; rfl
theorem addr4_inj {x y : Nat} (hx : x < 256) (hy : y < 256) (h : addr4 x = addr4 y) : x = y := by
  have h2 := congrArg bytesOf h
  unfold addr4 at h2
  rw [bytesOf_strOfNums (by intro z hz; simp at hz; omega), bytesOf_strOfNums (by intro z hz; simp at hz; omega)] at h2
  simp only [List.cons.injEq, true_and, and_true] at h2
  exact Int.ofNat.inj h2
theorem conv_addr (w : World) (x : Nat) : (convert 28 9 (.slice (some ⟨w.heap.size, 0, none⟩) 4 4)).run Tryz.prog (w.alloc (.cells #[.int .u8 10, .int .u8 0, .int .u8 0, .int .u8 (x : Int)] 5)) = .ok (.string (addr4 x)) (w.alloc (.cells #[.int .u8 10, .int .u8 0, .int .u8 0, .int .u8 (x : Int)] 5)) :=
  conv_own (P := Tryz.prog) _ 28 9 5 Tryz.underlying28 Tryz.underlying5 Tryz.underlying9 w.heap.size _ 4 [10, 0, 0, (x : Int)] (World.ownsRow_lit (e := 5) (base := w.heap.size) (size := 1) w #[.int .u8 10, .int .u8 0, .int .u8 0, .int .u8 (x : Int)] 4 (Nat.le_refl _) (by decide) rfl)

/-- What the law's own table says of a Net's addresses. -/
def OwnRel (os : List Int) (many : Nat) (m : ByteArray → Option Int) : Prop :=
  os.length = 256 ∧ ∀ x, x < 256 → 0 ≤ os.getD x 0 ∧ os.getD x 0 ≤ many ∧ m (addr4 x) = if os.getD x 0 = 0 then none else some (os.getD x 0 - 1)
theorem OwnRel.zero : OwnRel (List.replicate 256 0) 0 (fun _ => none) := by
  refine ⟨List.length_replicate .., fun x hx => ?_⟩
  have e : (List.replicate 256 (0 : Int)).getD x 0 = 0 := by
    rw [List.getD_eq_getElem?_getD, List.getElem?_replicate, if_pos hx]; rfl
  rw [e]
  exact ⟨by omega, by omega, rfl⟩
theorem getD_set (l : List Int) (i j : Nat) (v : Int) (hi : i < l.length) : (l.set i v).getD j 0 = if i = j then v else l.getD j 0 := by
  simp only [List.getD_eq_getElem?_getD, List.getElem?_set]
  by_cases h : i = j
  · subst h; simp [hi]
  · simp [h]
theorem OwnRel.add {os : List Int} {many : Nat} {m : ByteArray → Option Int} (h : OwnRel os many m) {x y : Nat} (hx : x < 256) (hy : y < 256) :
    OwnRel ((os.set x ((many : Int) + 1)).set y ((many : Int) + 1)) (many + 1) (addAll many [addr4 x, addr4 y] m) := by
  obtain ⟨hl, h⟩ := h
  refine ⟨by simp [hl], fun z hz => ?_⟩
  obtain ⟨h0, h1, h2⟩ := h z hz
  rw [getD_set _ _ _ _ (by simp [hl]; exact hy), getD_set _ _ _ _ (by rw [hl]; exact hx)]
  simp only [addAll]
  by_cases hzy : y = z
  · subst hzy
    rw [if_pos rfl, if_pos rfl]
    refine ⟨by omega, by omega, ?_⟩
    rw [if_neg (by omega)]
    congr 1; omega
  · have e1 : ¬ addr4 z = addr4 y := fun e => hzy (addr4_inj hz hy e).symm
    rw [if_neg hzy, if_neg e1]
    by_cases hzx : x = z
    · subst hzx
      rw [if_pos rfl, if_pos rfl]
      refine ⟨by omega, by omega, ?_⟩
      rw [if_neg (by omega)]
      congr 1; omega
    · have e2 : ¬ addr4 z = addr4 x := fun e => hzx (addr4_inj hz hx e).symm
      rw [if_neg hzx, if_neg e2]
      exact ⟨h0, by omega, h2⟩
theorem OwnRel.free {os : List Int} {many : Nat} {m : ByteArray → Option Int} (h : OwnRel os many m) {x : Nat} (hx : x < 256) : m (addr4 x) = none ↔ os.getD x 0 = 0 := by
  obtain ⟨_, _, h2⟩ := h.2 x hx
  rw [h2]
  by_cases e : os.getD x 0 = 0 <;> simp [e]
theorem OwnRel.look {os : List Int} {many : Nat} {m : ByteArray → Option Int} (h : OwnRel os many m) {x : Nat} (hx : x < 256) : (m (addr4 x)).getD (-1) = os.getD x 0 - 1 := by
  obtain ⟨_, _, h2⟩ := h.2 x hx
  rw [h2]
  by_cases e : os.getD x 0 = 0
  · rw [if_pos e, e]; rfl
  · rw [if_neg e]; rfl

def zeros256 : List Value := (List.replicate 256 (0 : Int)).map (.int .i64)
/-- Rows of endpoints are pointers that are there. -/
def Ptrs (es : List Value) : Prop := ∀ e ∈ es, ∃ be, e = .pointer (some ⟨be, 0, none⟩)
theorem Ptrs.nil : Ptrs [] := by intro e he; cases he
theorem Ptrs.snoc {es : List Value} (h : Ptrs es) (be : Nat) : Ptrs (es ++ [.pointer (some ⟨be, 0, none⟩)]) := by
  intro e he
  rcases List.mem_append.1 he with he | he
  · exact h e he
  · simp at he; exact ⟨be, he⟩
theorem Ptrs.at {es : List Value} (h : Ptrs es) (i : Nat) (hi : i < es.length) : ∃ be, es.getD i (.pointer none) = .pointer (some ⟨be, 0, none⟩) := by
  rw [List.getD_eq_getElem?_getD, List.getElem?_eq_getElem hi]
  exact h _ (List.getElem_mem hi)

theorem NetAt.other {B bn k : Nat} {seed : ByteArray} {drawn now last : Int} {es : List Value} {m : ByteArray → Option Int} {wm : Array MapEntry} {wc : Nat} {w : World} (h : NetAt B bn seed drawn now last es k m (.map wm wc) w)
    {ob : Nat} {T : TypeId} {cs : List Value} (h1 : T ≠ 64) (h2 : T ≠ 38) (hA : ArrAt w ob T cs) {w' : World} (hk : Keeps (· = ob) w.heap.size w w') : NetAt B bn seed drawn now last es k m (.map wm wc) w' := by
  obtain ⟨h0, ev, mo, mw, g1, g2, g3, g4, g5, g6, g7, g8, g9⟩ := h
  have hbn : ¬ bn = ob := by rintro rfl; unfold ArrAt at hA g1; rw [hA] at g1; simp at g1; exact h1 g1.2
  have hmw : ¬ mw = ob := by rintro rfl; unfold ArrAt at hA; rw [hA] at g5; simp at g5
  exact ⟨h0, ev, mo, mw, g1.keeps hk g1.lt hbn, g2, g3, g4.keeps hk g4.lt (fun e => g4.not_arr hA e), (hk.block mw (Array.getElem?_eq_some_iff.1 g5).1 hmw).trans g5, g6, g7,
    own_keeps g8 hk (fun b hb => ⟨own_lt g8 b hb, fun e => own_arr_ne h2 hA g8 (by rw [hb, e])⟩), g9⟩

theorem net_end_none (B bn k : Nat) (seed : ByteArray) (drawn now last : Int) (es : List Value) (m : ByteArray → Option Int) (wire : Obj) (w : World) (hb : es.length ≤ 8) (h : NetAt B bn seed drawn now last es k m wire w) :
    Calls Tryz.prog 11 #[.pointer (some ⟨bn, 0, none⟩), .int .i64 (es.length : Int)] w fun e w' => e = .returned (.pointer none) ∧ w' = w := by
  refine (net_end B bn k seed drawn now last (es.length : Int) es m wire w (by omega) hb h).mono ?_
  rintro e w' ⟨rfl, rfl⟩
  refine ⟨?_, rfl⟩
  rw [if_neg (by omega), Int.toNat_natCast, List.getD_eq_getElem?_getD, List.getElem?_eq_none (Nat.le_refl _)]
  rfl
theorem net_end_some (B bn k : Nat) (seed : ByteArray) (drawn now last i : Int) (es : List Value) (m : ByteArray → Option Int) (wire : Obj) (w : World) (hb : es.length ≤ 8) (j be : Nat) (hi : i = (j : Int)) (hj : es.getD j (.pointer none) = .pointer (some ⟨be, 0, none⟩)) (h : NetAt B bn seed drawn now last es k m wire w) :
    Calls Tryz.prog 11 #[.pointer (some ⟨bn, 0, none⟩), .int .i64 i] w fun e w' => e = .returned (.pointer (some ⟨be, 0, none⟩)) ∧ w' = w := by
  subst hi
  refine (net_end B bn k seed drawn now last (j : Int) es m wire w (by omega) hb h).mono ?_
  rintro e w' ⟨rfl, rfl⟩
  refine ⟨?_, rfl⟩
  rw [if_neg (by omega), Int.toNat_natCast, hj]

theorem os_cell {w : World} {ob : Nat} {T : TypeId} {os : List Int} (h : ArrAt w ob T (os.map (.int .i64))) (x : Nat) (hx : x < os.length) : w.cell? ⟨ob, x, none⟩ = some (.int .i64 (os.getD x 0)) := by
  rw [h.cell x, List.getElem?_map, List.getElem?_eq_getElem hx, List.getD_eq_getElem?_getD, List.getElem?_eq_getElem hx]
  rfl
theorem os_set {w : World} {ob : Nat} {T : TypeId} {os : List Int} (h : ArrAt w ob T (os.map (.int .i64))) (x : Nat) (v : Int) : ArrAt (w.setCell ⟨ob, x, none⟩ (.int .i64 v)) ob T ((os.set x v).map (.int .i64)) := by
  have := h.set x (.int .i64 v)
  rwa [← List.map_set] at this

set_option maxRecDepth 100000 in
set_option maxHeartbeats 4000000 in
theorem owners_start (n : Nat) (ao : Option Addr) (cap : Nat) (hn : 20 < n) (w : World) :
    Calls Tryz.prog 3 #[.slice ao n cap] w fun e w' => e = .returned (.bool true) ∧ Below w.heap.size w w' := by
  have hnI : (20 : Int) < (n : Int) := by omega
  go_enter Tryz.func3, Tryz.ntmps3
  go_wp2_with fail
  refine (law_shown _).mono ?_
  rintro e w1 ⟨rfl, hb⟩
  go_wp2
  go_ret
  exact ⟨rfl, hb⟩

set_option maxRecDepth 100000 in
set_option maxHeartbeats 8000000 in
theorem owners_walk (lb lo n : Nat) (ao : Option Addr) (cap : Nat) (hn : n ≤ 20) (xs ys : Nat → Nat) (hao : 0 < n → ao = some ⟨lb, lo, none⟩) (w : World) (hxy : ∀ j, j < n → xs j < 256 ∧ ys j < 256)
    (hc : ∀ j, j < n → w.cell? ⟨lb, lo + j * 2, none⟩ = some (.int .u8 (xs j : Int)) ∧ w.cell? ⟨lb, lo + j * 2 + 1, none⟩ = some (.int .u8 (ys j : Int))) :
    Calls Tryz.prog 3 #[.slice ao n cap] w fun e w' => e = .returned (.bool true) ∧ Below w.heap.size w w' := by
  have hnI : ¬ (20 : Int) < (n : Int) := by omega
  have HC := Lib.hid hc
  have HXY := Lib.hid hxy
  have HAO := Lib.hid hao
  clear hc hxy hao
  go_enter Tryz.func3, Tryz.ntmps3
  go_wp2_with fail
  refine (law_shown _).mono ?_
  rintro e w1 ⟨rfl, hb1⟩
  go_wp2_with fail
  refine (net_new _ w.heap.size _ hb1.size).mono ?_
  rintro e w2 ⟨bn, rfl, hN2, hb2⟩
  have hB2 : Below w.heap.size w w2 := hb1.trans (hb2.mono hb1.size)
  clear hb1 hb2
  go_upto_region 7 with fail
  rename_i hK0
  refine wp_region_list ?_
  (refine wpList_plain rfl fun K hK => ?_; go_simp; refine hK _ _ ?_; clear hK K; (try simp only [Act.put, List.setIfInBounds_toArray, List.set_cons_zero, List.set_cons_succ]))
  refine hide_alloc (C := fun v => wpList _ _ _ _ _ v) 26 zeros256 ?_
  intro w3 hO3 hb3 hs3
  refine wpList_nil ?_
  refine hK0 _ _ ?_
  clear hK0
  have hN3 := hN2.below hb3
  have hB3 : Below w.heap.size w w3 := hB2.trans (hb3.mono hB2.size)
  have hob : w.heap.size ≤ w2.heap.size := hB2.size
  clear hN2 hB2 hb3
  generalize w2.heap.size = ob at *
  go_wp2_with fail
  go_loopw [6, 7] (fun q i wr => ∃ (j k : Nat) (es : List Value) (m : ByteArray → Option Int) (os : List Int), j ≤ n ∧ i = .int .i64 (j : Int) ∧ q = .int .i64 (es.length : Int) ∧ es.length ≤ 8 ∧ k ≤ 2 * es.length ∧ NetAt w.heap.size bn ⟨#[115, 101, 101, 100]⟩ 0 0 0 es k m (.map #[] 0) wr ∧
      ArrAt wr ob 26 (os.map (.int .i64)) ∧ OwnRel os es.length m ∧ Ptrs es ∧ Below w.heap.size w wr ∧ w.heap.size ≤ ob) (fun _ i _ => (n - intOf i).toNat)
  case atStart => exact ⟨0, 0, [], fun _ => none, List.replicate 256 0, by omega, rfl, rfl, by simp, by simp, hN3, hO3, OwnRel.zero, Ptrs.nil, hB3, hob⟩
  case round =>
    obtain ⟨j, k, es, m, os, hj, rfl, rfl, hes, hk, hN, hO, hR, hP, hB, hob⟩ := hrel
    by_cases hjl : j < n
    · have hjI : (j : Int) < (n : Int) := by omega
      have hao := HAO.out (by omega)
      subst hao
      obtain ⟨hx, hy⟩ := HXY.out j hjl
      obtain ⟨cx, cy⟩ := HC.out j hjl
      have hlb : lb < w.heap.size := block_lt_of_cell cx
      obtain ⟨x, hxe⟩ : ∃ x, x = xs j := ⟨_, rfl⟩
      obtain ⟨y, hye⟩ : ∃ y, y = ys j := ⟨_, rfl⟩
      rw [← hxe] at hx cx
      rw [← hye] at hy cy
      have HX := Lib.hid hxe
      have HY := Lib.hid hye
      clear hxe hye
      replace cx := (hB.cell (p := ⟨lb, lo + j * 2, none⟩) hlb).trans cx
      replace cy := (hB.cell (p := ⟨lb, lo + j * 2 + 1, none⟩) hlb).trans cy
      have v1 := conv_addr wr x
      have v2 := conv_addr (wr.alloc (.cells #[.int .u8 10, .int .u8 0, .int .u8 0, .int .u8 (x : Int)] 5)) y
      rw [show (wr.alloc (.cells #[.int .u8 10, .int .u8 0, .int .u8 0, .int .u8 (x : Int)] 5)).heap.size = wr.heap.size + 1 by simp] at v2
      have cy2 : (wr.alloc (.cells #[.int .u8 10, .int .u8 0, .int .u8 0, .int .u8 (x : Int)] 5)).cell? ⟨lb, lo + j * 2 + 1, none⟩ = some (.int .u8 (y : Int)) := (World.cell?_alloc_lt _ _ _ (by have := hB.size; show lb < _; omega)).trans cy
      have hbW := (((Below.refl wr.heap.size wr).alloc (Nat.le_refl _) (.cells #[.int .u8 10, .int .u8 0, .int .u8 0, .int .u8 (x : Int)] 5)).alloc (by simp) (.cells #[.int .u8 10, .int .u8 0, .int .u8 0, .int .u8 (y : Int)] 5)).alloc (by simp; omega) (.cells #[.string (addr4 x), .string (addr4 y)] 9)
      have hcW := ArrAt.new ((wr.alloc (.cells #[.int .u8 10, .int .u8 0, .int .u8 0, .int .u8 (x : Int)] 5)).alloc (.cells #[.int .u8 10, .int .u8 0, .int .u8 0, .int .u8 (y : Int)] 5)) [.string (addr4 x), .string (addr4 y)] 9
      rw [show ((wr.alloc (.cells #[.int .u8 10, .int .u8 0, .int .u8 0, .int .u8 (x : Int)] 5)).alloc (.cells #[.int .u8 10, .int .u8 0, .int .u8 0, .int .u8 (y : Int)] 5)).heap.size = wr.heap.size + 2 by simp] at hcW
      have hNW := hN.below hbW
      have hOW := hO.below hbW hO.lt
      have hBW := hB.trans (hbW.mono hB.size)
      have hwsz := hB.size
      have HFIN := Lib.hid (And.intro hcW (And.intro hNW (And.intro hOW hBW)))
      clear hcW hNW hOW hBW hbW hN hO hB
      go_wp2_with fail
      refine hide_world (C := fun v => Calls _ _ _ v _) (P := fun v => ArrAt v (wr.heap.size + 2) 9 [.string (addr4 x), .string (addr4 y)] ∧ NetAt w.heap.size bn ⟨#[115, 101, 101, 100]⟩ 0 0 0 es k m (.map #[] 0) v ∧ ArrAt v ob 26 (os.map (.int .i64)) ∧ Below w.heap.size w v) HFIN.out ?_
      clear HFIN cy2 v1 v2 cx cy
      rintro v ⟨hcW, hNW, hOW, hBW⟩
      have HCX : Hid (w.cell? ⟨lb, lo + j * 2, none⟩ = some (.int .u8 (x : Int)) ∧ w.cell? ⟨lb, lo + j * 2 + 1, none⟩ = some (.int .u8 (y : Int))) := by
        rw [HX.out, HY.out]; exact HC.out j hjl
      have hlen := hR.1
      have hcell2 : ∀ i, i < 2 → v.cell? ⟨wr.heap.size + 2, i, none⟩ = some (.string ([addr4 x, addr4 y].getD i .empty)) := by
        intro i hi
        rw [hcW.cell i]
        rcases (by omega : i = 0 ∨ i = 1) with rfl | rfl <;> rfl
      have h4s : ∀ s ∈ [addr4 x, addr4 y], s.size = 4 := by
        intro s hs
        rcases List.mem_cons.1 hs with rfl | hs
        · exact addr4_size _
        · obtain rfl := List.mem_singleton.1 hs; exact addr4_size _
      have hfx := hR.free hx
      have hfy := hR.free hy
      obtain ⟨ox, hox⟩ : ∃ ox, ox = os.getD x 0 := ⟨_, rfl⟩
      obtain ⟨oy, hoy⟩ : ∃ oy, oy = os.getD y 0 := ⟨_, rfl⟩
      rw [← hox] at hfx
      rw [← hoy] at hfy
      have HF := Lib.hid (And.intro hfx hfy)
      clear hfx hfy
      have HO := Lib.hid (And.intro hox hoy)
      clear hox hoy
      have H2 := Lib.hid (And.intro hcell2 h4s)
      have HL := Lib.hid hlen
      clear hlen hcell2 h4s
      by_cases hfull : es.length = 8
      · refine (net_add_full w.heap.size bn k _ 0 0 0 es m _ v hfull hNW [_, _, _, _, _] ⟨_, _, _, _, _, rfl⟩).mono ?_
        rintro e w5 ⟨rfl, hb5⟩
        have hN5 := hNW.below hb5
        have hO5 := hOW.below hb5 hOW.lt
        have hB5 := hBW.trans (hb5.mono hBW.size)
        clear hNW hOW hBW hb5 hcW
        have cx : w5.cell? ⟨lb, lo + j * 2, none⟩ = some (.int .u8 (x : Int)) := (hB5.cell (p := ⟨lb, lo + j * 2, none⟩) hlb).trans HCX.out.1
        have cy : w5.cell? ⟨lb, lo + j * 2 + 1, none⟩ = some (.int .u8 (y : Int)) := (hB5.cell (p := ⟨lb, lo + j * 2 + 1, none⟩) hlb).trans HCX.out.2
        have dx : w5.cell? ⟨ob, x, none⟩ = some (.int .i64 ox) := by rw [HO.out.1]; exact os_cell hO5 x (by rw [HL.out]; exact hx)
        have dy : w5.cell? ⟨ob, y, none⟩ = some (.int .i64 oy) := by rw [HO.out.2]; exact os_cell hO5 y (by rw [HL.out]; exact hy)
        have t8 : (((es.length : Nat) : Int) == 8) = true := by rw [hfull]; rfl
        have HF8 := Lib.hid hfull
        clear hfull
        have hxI : (x : Int) < 256 := by omega
        have hyI : (y : Int) < 256 := by omega
        by_cases ex : ox = 0
        · by_cases ey : oy = 0
          · have tx : (ox == 0) = true := beq_iff_eq.2 ex
            have ty : (oy == 0) = true := beq_iff_eq.2 ey
            clear ex ey
            go_wp2
            go_roundw
            case rel => exact ⟨j + 1, k, es, m, os, by omega, by go_num, rfl, by have := HF8.out; omega, hk, hN5, hO5, hR, hP, hB5, hob⟩
            case measure => simp [intOf]; omega
          · have tx : (ox == 0) = true := beq_iff_eq.2 ex
            have ty : (oy == 0) = false := beq_eq_false_iff_ne.2 ey
            clear ex ey
            go_wp2
            go_roundw
            case rel => exact ⟨j + 1, k, es, m, os, by omega, by go_num, rfl, by have := HF8.out; omega, hk, hN5, hO5, hR, hP, hB5, hob⟩
            case measure => simp [intOf]; omega
        · have tx : (ox == 0) = false := beq_eq_false_iff_ne.2 ex
          clear ex
          go_wp2
          go_roundw
          case rel => exact ⟨j + 1, k, es, m, os, by omega, by go_num, rfl, by have := HF8.out; omega, hk, hN5, hO5, hR, hP, hB5, hob⟩
          case measure => simp [intOf]; omega
      · have hl8 : es.length < 8 := by omega
        have t8 : (((es.length : Nat) : Int) == 8) = false := by rw [beq_eq_false_iff_ne]; omega
        clear hfull
        refine (net_add w.heap.size bn k _ 0 0 0 es m _ v hl8 (by omega) hNW (wr.heap.size + 2) 2 2 [addr4 x, addr4 y] ⟨#[107]⟩ 7 60000 4 rfl H2.out.2 (by decide) (by decide) H2.out.1 (by decide) (by decide) (by decide) (.inr trivial)).mono ?_
        rintro e w5 (⟨hex, rfl, hb5⟩ | ⟨hall, be, rfl, hN5, hb5, hk5⟩)
        · have hN5 := hNW.below hb5
          have hO5 := hOW.below hb5 hOW.lt
          have hB5 := hBW.trans (hb5.mono hBW.size)
          clear hNW hOW hBW hb5 hcW
          have cx : w5.cell? ⟨lb, lo + j * 2, none⟩ = some (.int .u8 (x : Int)) := (hB5.cell (p := ⟨lb, lo + j * 2, none⟩) hlb).trans HCX.out.1
          have cy : w5.cell? ⟨lb, lo + j * 2 + 1, none⟩ = some (.int .u8 (y : Int)) := (hB5.cell (p := ⟨lb, lo + j * 2 + 1, none⟩) hlb).trans HCX.out.2
          have dx : w5.cell? ⟨ob, x, none⟩ = some (.int .i64 ox) := by rw [HO.out.1]; exact os_cell hO5 x (by rw [HL.out]; exact hx)
          have dy : w5.cell? ⟨ob, y, none⟩ = some (.int .i64 oy) := by rw [HO.out.2]; exact os_cell hO5 y (by rw [HL.out]; exact hy)
          have hxI : (x : Int) < 256 := by omega
          have hyI : (y : Int) < 256 := by omega
          by_cases ex : ox = 0
          · have ey : oy ≠ 0 := by
              intro ey
              obtain ⟨s, hs, hne⟩ := hex
              rcases List.mem_cons.1 hs with rfl | hs
              · exact hne (HF.out.1.2 ex)
              · obtain rfl := List.mem_singleton.1 hs; exact hne (HF.out.2.2 ey)
            have tx : (ox == 0) = true := beq_iff_eq.2 ex
            have ty : (oy == 0) = false := beq_eq_false_iff_ne.2 ey
            clear ex ey hex
            go_wp2
            go_roundw
            case rel => exact ⟨j + 1, k, es, m, os, by omega, by go_num, rfl, by omega, hk, hN5, hO5, hR, hP, hB5, hob⟩
            case measure => simp [intOf]; omega
          · have tx : (ox == 0) = false := beq_eq_false_iff_ne.2 ex
            clear ex hex
            go_wp2
            go_roundw
            case rel => exact ⟨j + 1, k, es, m, os, by omega, by go_num, rfl, by omega, hk, hN5, hO5, hR, hP, hB5, hob⟩
            case measure => simp [intOf]; omega
        · have hO5 := hk5 ob _ _ (by decide) (by decide) hOW
          have hB5 := hBW.trans hb5
          clear hNW hOW hBW hb5 hcW hk5
          have cx : w5.cell? ⟨lb, lo + j * 2, none⟩ = some (.int .u8 (x : Int)) := (hB5.cell (p := ⟨lb, lo + j * 2, none⟩) hlb).trans HCX.out.1
          have cy : w5.cell? ⟨lb, lo + j * 2 + 1, none⟩ = some (.int .u8 (y : Int)) := (hB5.cell (p := ⟨lb, lo + j * 2 + 1, none⟩) hlb).trans HCX.out.2
          have dx : w5.cell? ⟨ob, x, none⟩ = some (.int .i64 ox) := by rw [HO.out.1]; exact os_cell hO5 x (by rw [HL.out]; exact hx)
          have dy : w5.cell? ⟨ob, y, none⟩ = some (.int .i64 oy) := by rw [HO.out.2]; exact os_cell hO5 y (by rw [HL.out]; exact hy)
          have fx := hO5.frozen x
          have hs1 := os_set hO5 x ((es.length : Int) + 1)
          have dy2 := os_cell hs1 y (by rw [List.length_set, HL.out]; exact hy)
          have fy2 := hs1.frozen y
          obtain ⟨oz, hoz⟩ : ∃ oz, oz = (os.set x ((es.length : Int) + 1)).getD y 0 := ⟨_, rfl⟩
          rw [← hoz] at dy2
          clear hoz
          have cy2 : (w5.setCell ⟨ob, x, none⟩ (.int .i64 ((es.length : Int) + 1))).cell? ⟨lb, lo + j * 2 + 1, none⟩ = some (.int .u8 (y : Int)) := (Below.cell ((Below.refl w.heap.size w5).setCell (p := ⟨ob, x, none⟩) hob _) (p := ⟨lb, lo + j * 2 + 1, none⟩) hlb).trans cy
          have ex : ox = 0 := HF.out.1.1 (hall _ (List.mem_cons_self ..))
          have ey : oy = 0 := HF.out.2.1 (hall _ (List.mem_cons_of_mem _ (List.mem_cons_self ..)))
          have tx : (ox == 0) = true := beq_iff_eq.2 ex
          have ty : (oy == 0) = true := beq_iff_eq.2 ey
          have hxI : (x : Int) < 256 := by omega
          have hyI : (y : Int) < 256 := by omega
          have hs2 := os_set hs1 y ((es.length : Int) + 1)
          have hN6 := hN5.other (by decide) (by decide) hO5 (Keeps.setCell (M := (· = ob)) (Keeps.refl _ w5.heap.size w5) (p := ⟨ob, x, none⟩) (.inl rfl) (.int .i64 ((es.length : Int) + 1)))
          have hN7 := hN6.other (by decide) (by decide) hs1 (Keeps.setCell (M := (· = ob)) (Keeps.refl _ _ _) (p := ⟨ob, y, none⟩) (.inl rfl) (.int .i64 ((es.length : Int) + 1)))
          have hB7 := (hB5.setCell (p := ⟨ob, x, none⟩) hob (.int .i64 ((es.length : Int) + 1))).setCell (p := ⟨ob, y, none⟩) hob (.int .i64 ((es.length : Int) + 1))
          have HFIN := Lib.hid (And.intro hN7 (And.intro hs2 hB7))
          clear ex ey hall hs1 hs2 hN5 hN6 hN7 hB5 hB7 hO5
          go_wp2
          go_roundw
          case rel => exact ⟨j + 1, k + 2, es ++ [.pointer (some ⟨be, 0, none⟩)], _, _, by omega, by go_num, by rw [List.length_append]; go_num, by rw [List.length_append]; show es.length + 1 ≤ 8; omega, by rw [List.length_append]; show k + 2 ≤ 2 * (es.length + 1); omega, HFIN.out.1, HFIN.out.2.1, by rw [List.length_append]; exact hR.add hx hy, hP.snoc be, HFIN.out.2.2, hob⟩
          case measure => simp [intOf]; omega
    · have hjI : ¬ ((j : Int) < (n : Int)) := by omega
      clear HAO HXY HC hjl
      go_wp2_with fail
      go_loopw [14] (fun i v => ∃ b : Nat, b ≤ 256 ∧ i = .int .i64 (b : Int) ∧ NetAt w.heap.size bn ⟨#[115, 101, 101, 100]⟩ 0 0 0 es k m (.map #[] 0) v ∧ ArrAt v ob 26 (os.map (.int .i64)) ∧ Below w.heap.size w v) (fun i _ => (256 - intOf i).toNat)
      case atStart => exact ⟨0, by omega, rfl, hN, hO, hB⟩
      case round =>
        clear hN hO hB
        obtain ⟨b, hb, rfl, hN, hO, hB⟩ := hrel
        by_cases hbl : b < 256
        · have hbI : (b : Int) < 256 := by omega
          obtain ⟨z, hz⟩ : ∃ z, z = os.getD b 0 := ⟨_, rfl⟩
          have dz := os_cell hO b (by rw [hR.1]; exact hbl)
          have hlook := hR.look hbl
          obtain ⟨z0, z1, _⟩ := hR.2 b hbl
          rw [← hz] at dz hlook z0 z1
          clear hz
          have HLOOK := Lib.hid hlook
          clear hlook
          have hobl : ob < wr.heap.size := hO.lt
          have hwb : IntKind.u8.wrap (b : Int) = (b : Int) := by
            have : IntKind.u8.wrap (b : Int) = (b : Int) % 256 := rfl
            rw [this]; omega
          have hwz : IntKind.i64.wrap (z - 1) = z - 1 := IntWalk.i64_in _ (by omega)
          have v3 : (convert 28 9 (.slice (some ⟨wr.heap.size, 0, none⟩) 4 4)).run Tryz.prog (wr.alloc (.cells #[.int .u8 10, .int .u8 0, .int .u8 0, .int .u8 (b : Int)] 5)).drew = .ok (.string (addr4 b)) (wr.alloc (.cells #[.int .u8 10, .int .u8 0, .int .u8 0, .int .u8 (b : Int)] 5)).drew := conv_addr wr.drew b
          have hbW := (Below.drew (Below.refl wr.heap.size wr)).alloc (Nat.le_refl _) (.cells #[.int .u8 10, .int .u8 0, .int .u8 0, .int .u8 (b : Int)] 5)
          have hNW := hN.below hbW
          have hOW := hO.below hbW hO.lt
          have hBW := hB.trans (hbW.mono hB.size)
          clear hbW
          go_wp2_with fail
          rename_i hK0
          refine wp_region_noPanic ?_
          refine wp_region_held_drew (S := fun w' => w'.cell? ⟨ob, b, none⟩ = some (.int .i64 z)) (by kernel_rfl) ?_ (fun hHeld => ?_)
          · (first | exact dz | go_keep)
          refine wpAnyH_take (i := 0) (oi := _) (v := ?_) rfl (by kernel_rfl) (by kernel_rfl) (by kernel_rfl) (fun _ _ _ h => h) (Or.inl ⟨by rfl, ?_⟩) (by assumption) ?_
          rotate_left; (intro w hSw; (try dsimp only at hSw); go_simp; first | done | (with_reducible rfl) | fail "REGION: operation 0 is not decided")
          try simp only [Act.put, List.setIfInBounds_toArray, List.set_cons_zero, List.set_cons_succ]
          refine wpAnyH_take (i := 1) (oi := _) (v := ?_) rfl (by kernel_rfl) (by kernel_rfl) (by kernel_rfl) (fun _ _ _ h => h) (Or.inl ⟨by rfl, ?_⟩) (by assumption) ?_
          rotate_left; (intro w hSw; (try dsimp only at hSw); go_simp; first | done | (with_reducible rfl) | fail "REGION: operation 1 is not decided")
          try simp only [Act.put, List.setIfInBounds_toArray, List.set_cons_zero, List.set_cons_succ]
          refine wpAnyH_take (i := 6) (oi := _) (v := ?_) rfl (by kernel_rfl) (by kernel_rfl) (by kernel_rfl) (fun _ _ _ h => h) (Or.inl ⟨by rfl, ?_⟩) (by assumption) ?_
          rotate_left; (intro w hSw; (try dsimp only at hSw); go_simp; first | done | (with_reducible rfl) | fail "REGION: operation 6 is not decided")
          try simp only [Act.put, List.setIfInBounds_toArray, List.set_cons_zero, List.set_cons_succ]
          refine wpAnyH_take (i := 2) (oi := _) (v := ?_) rfl (by kernel_rfl) (by kernel_rfl) (by kernel_rfl) (fun _ _ _ h => h) (Or.inl ⟨by rfl, ?_⟩) (by assumption) ?_
          rotate_left; (intro w hSw; (try dsimp only at hSw); go_simp; first | done | (with_reducible rfl) | fail "REGION: operation 2 is not decided")
          try simp only [Act.put, List.setIfInBounds_toArray, List.set_cons_zero, List.set_cons_succ]
          refine wpAnyH_take (i := 7) (oi := _) (v := ?_) rfl (by kernel_rfl) (by kernel_rfl) (by kernel_rfl) (fun _ _ _ h => h) (Or.inl ⟨by rfl, ?_⟩) (by assumption) ?_
          rotate_left; (intro w hSw; (try dsimp only at hSw); go_simp; first | done | (with_reducible rfl) | fail "REGION: operation 7 is not decided")
          try simp only [Act.put, List.setIfInBounds_toArray, List.set_cons_zero, List.set_cons_succ]
          refine wpAnyH_take (i := 8) (oi := _) (v := ?_) rfl (by kernel_rfl) (by kernel_rfl) (by kernel_rfl) (fun _ _ _ h => h) (Or.inl ⟨by rfl, ?_⟩) (by assumption) ?_
          rotate_left; (intro w hSw; (try dsimp only at hSw); go_simp; first | done | (with_reducible rfl) | fail "REGION: operation 8 is not decided")
          try simp only [Act.put, List.setIfInBounds_toArray, List.set_cons_zero, List.set_cons_succ]
          refine wpAnyH_take (i := 9) (oi := _) (v := ?_) rfl (by kernel_rfl) (by kernel_rfl) (by kernel_rfl) (fun _ _ _ h => h) (Or.inl ⟨by rfl, ?_⟩) (by assumption) ?_
          rotate_left; (intro w hSw; (try dsimp only at hSw); go_simp; first | done | (with_reducible rfl) | fail "REGION: operation 9 is not decided")
          try simp only [Act.put, List.setIfInBounds_toArray, List.set_cons_zero, List.set_cons_succ]
          refine wpAnyH_ready (rs := [3]) (by kernel_rfl) (by simp) ?_
          refine AllReadyH.cons (o := _) rfl (fun K hK => ?_) AllReadyH.nil
          go_simp
          refine hK.out _ _ ?_ (fun hHeld => ?_)
          · (first | exact dz | go_keep)
          clear hK K
          try simp only [Act.put, List.setIfInBounds_toArray, List.set_cons_zero, List.set_cons_succ]
          refine wpAnyH_ready (rs := [4]) (by kernel_rfl) (by simp) ?_
          refine AllReadyH.cons (o := _) rfl (fun K hK => ?_) AllReadyH.nil
          go_simp
          refine hK.out _ _ ?_ (fun hHeld => ?_)
          · (first | exact dz | go_keep)
          clear hK K
          try simp only [Act.put, List.setIfInBounds_toArray, List.set_cons_zero, List.set_cons_succ]
          refine wpAnyH_ready (rs := [5]) (by kernel_rfl) (by simp) ?_
          refine AllReadyH.cons (o := _) rfl (fun K hK => ?_) AllReadyH.nil
          (go_simp; refine (net_owner w.heap.size bn k _ (addr4 b) (by rw [addr4_size]; decide) 0 0 0 es m _ _ hNW).mono ?_; rintro e w' ⟨rfl, rfl⟩; rw [HLOOK.out])
          refine hK.out _ _ ?_ (fun hHeld => ?_)
          · (first | exact dz | go_keep)
          clear hK K
          try simp only [Act.put, List.setIfInBounds_toArray, List.set_cons_zero, List.set_cons_succ]
          refine wpAnyH_take (i := 10) (oi := _) (v := ?_) rfl (by kernel_rfl) (by kernel_rfl) (by kernel_rfl) (fun _ _ _ h => h) (Or.inl ⟨by rfl, ?_⟩) (by assumption) ?_
          rotate_left; (intro w hSw; (try dsimp only at hSw); go_simp; first | done | (with_reducible rfl) | fail "REGION: operation 10 is not decided")
          try simp only [Act.put, List.setIfInBounds_toArray, List.set_cons_zero, List.set_cons_succ]
          refine wpAnyH_done (by kernel_rfl) ?_ _
          refine NoPanic.normal ?_
          refine hK0 _ _ ?_
          clear hK0 hHeld
          try simp only [Act.put, List.setIfInBounds_toArray, List.set_cons_zero, List.set_cons_succ]
          go_wp2
          go_roundw
          case rel => exact ⟨b + 1, by omega, by go_num, hNW, hOW, hBW⟩
          case measure => simp [intOf]; omega
        · go_wp2_with fail
          refine (net_end_none w.heap.size bn k _ 0 0 0 es m _ _ hes hN).mono ?_
          rintro e w' ⟨rfl, rfl⟩
          by_cases h0 : es.length = 0
          · have t0 : (((es.length : Nat) : Int) == 0) = true := by rw [h0]; rfl
            clear h0
            go_wp2
            go_ret
            exact ⟨rfl, hB⟩
          · have t0 : (((es.length : Nat) : Int) == 0) = false := by rw [beq_eq_false_iff_ne]; omega
            obtain ⟨be, hbe⟩ := hP.at (es.length - 1) (by omega)
            have HBE := Lib.hid hbe
            clear hbe
            go_wp2_with fail
            refine (net_end_some w.heap.size bn k _ 0 0 0 _ es m _ _ hes (es.length - 1) be (by omega) HBE.out hN).mono ?_
            rintro e w' ⟨rfl, rfl⟩
            go_wp2
            go_ret
            exact ⟨rfl, hB⟩
end Go.Proofs.YtjpdagfdcniphaaGreatDoor
