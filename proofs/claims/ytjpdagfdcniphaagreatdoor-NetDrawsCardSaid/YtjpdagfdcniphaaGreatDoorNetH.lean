/- law 21: NetDraws, walked -/
import Derived.Test.YtjpdagfdcniphaaGreatDoorNetG
set_option linter.unusedVariables false
set_option linter.unusedSimpArgs false
namespace Go.Proofs.YtjpdagfdcniphaaGreatDoor
open Go.RowKit Go.Maps

set_option maxRecDepth 100000 in
set_option maxHeartbeats 1000000 in
theorem sock_new_err (now : Int) (w : World) :
    Calls Tryz.prog 27 #[.agg #[.slice none 0 0, .int .u16 0, .string ⟨#[]⟩, .int .u32 0, .int .u16 0], .int .i64 now] w fun e w' => e = .returned (.tuple #[.pointer none, .int .i64 1]) ∧ Below w.heap.size w w' := by
  go_enter Tryz.func27, Tryz.ntmps27
  go_wp2
  go_ret2
  exact ⟨rfl, (Below.refl _ _).alloc (Nat.le_refl _) _⟩

set_option maxRecDepth 100000 in
set_option maxHeartbeats 2000000 in
theorem net_add_err (B bn k : Nat) (seed : ByteArray) (drawn now last : Int) (m : ByteArray → Option Int) (wire : Obj) (w : World) (h : NetAt B bn seed drawn now last [] k m wire w) :
    Calls Tryz.prog 9 #[.pointer (some ⟨bn, 0, none⟩), .agg #[.slice none 0 0, .int .u16 0, .string ⟨#[]⟩, .int .u32 0, .int .u16 0]] w fun e w' => e = .returned (.tuple #[.int .i64 0, .int .i64 1]) ∧ Below w.heap.size w w' := by
  obtain ⟨hB, ev, mo, mw, h1, _, _, _, _, _, _, hown, _⟩ := h
  obtain ⟨ao, ce, rfl⟩ := own_form hown
  have c2 := h1.cell 2
  have c3 := h1.cell 3
  simp only [List.getElem?_cons_zero, List.getElem?_cons_succ, List.length_nil] at c2 c3
  have hlt := h1.lt
  clear hown h1
  have HC : ArrAt (w.alloc (.cells #[.slice none 0 0, .int .u16 0, .string ⟨#[]⟩, .int .u32 0, .int .u16 0] 36)) w.heap.size 36 [.slice none 0 0, .int .u16 0, .string ⟨#[]⟩, .int .u32 0, .int .u16 0] := ArrAt.new w _ _
  go_enter Tryz.func9, Tryz.ntmps9
  go_wp2_with fail
  refine hide_world (C := fun v => Code.wp _ _ _ _ v) (P := fun v => ArrAt v w.heap.size 36 [.slice none 0 0, .int .u16 0, .string ⟨#[]⟩, .int .u32 0, .int .u16 0] ∧ Below w.heap.size w v ∧ v.heap.size = w.heap.size + 1) ⟨HC, (Below.refl _ _).alloc (Nat.le_refl _) _, by simp⟩ ?_
  clear HC
  rintro w1 ⟨hC, hb1, hsz1⟩
  replace c2 := (hb1.cell (p := ⟨bn, 2, none⟩) hlt).trans c2
  refine wp_loop_rounds 1 ?_
  rw [rounds_succ]
  have e0 := hC.cell 0
  have e1 := hC.cell 1
  have e2 := hC.cell 2
  have e3 := hC.cell 3
  have e4 := hC.cell 4
  simp only [List.getElem?_cons_zero, List.getElem?_cons_succ] at e0 e1 e2 e3 e4
  have hlw : w.heap.size < w1.heap.size := by omega
  have hltr : bn < w1.heap.size := by omega
  go_wp2_with fail
  rename_i hK0
  refine wp_region_noPanic ?_
  refine wp_region_held_drew (S := fun w' => w'.cell? ⟨w.heap.size, 0, none⟩ = some (.slice none 0 0) ∧ w'.cell? ⟨w.heap.size, 1, none⟩ = some (.int .u16 0) ∧ w'.cell? ⟨w.heap.size, 2, none⟩ = some (.string ⟨#[]⟩) ∧ w'.cell? ⟨w.heap.size, 3, none⟩ = some (.int .u32 0) ∧ w'.cell? ⟨w.heap.size, 4, none⟩ = some (.int .u16 0) ∧ w'.cell? ⟨bn, 2, none⟩ = some (.int .i64 now)) (by kernel_rfl) ?_ (fun hHeld => ?_)
  · (first | go_keep | exact ⟨(hb2.cell (p := ⟨w.heap.size, 0, none⟩) hlw).trans e0, (hb2.cell (p := ⟨w.heap.size, 1, none⟩) hlw).trans e1, (hb2.cell (p := ⟨w.heap.size, 2, none⟩) hlw).trans e2, (hb2.cell (p := ⟨w.heap.size, 3, none⟩) hlw).trans e3, (hb2.cell (p := ⟨w.heap.size, 4, none⟩) hlw).trans e4, (hb2.cell (p := ⟨bn, 2, none⟩) hltr).trans c2⟩)
  refine wpAnyH_take (i := 0) (oi := _) (v := ?_) rfl (by kernel_rfl) (by kernel_rfl) (by kernel_rfl) (fun _ _ _ h => h) (Or.inl ⟨by rfl, ?_⟩) (by assumption) ?_
  rotate_left; (intro w hSw; (try dsimp only at hSw); go_simp; first | done | (with_reducible rfl) | fail "REGION: operation 0 is not decided")
  try simp only [Act.put, List.setIfInBounds_toArray, List.set_cons_zero, List.set_cons_succ]
  refine wpAnyH_take (i := 1) (oi := _) (v := ?_) rfl (by kernel_rfl) (by kernel_rfl) (by kernel_rfl) (fun _ _ _ h => h) (Or.inl ⟨by rfl, ?_⟩) (by assumption) ?_
  rotate_left; (intro w hSw; (try dsimp only at hSw); go_simp; first | done | (with_reducible rfl) | fail "REGION: operation 1 is not decided")
  try simp only [Act.put, List.setIfInBounds_toArray, List.set_cons_zero, List.set_cons_succ]
  refine wpAnyH_take (i := 2) (oi := _) (v := ?_) rfl (by kernel_rfl) (by kernel_rfl) (by kernel_rfl) (fun _ _ _ h => h) (Or.inl ⟨by rfl, ?_⟩) (by assumption) ?_
  rotate_left; (intro w hSw; (try dsimp only at hSw); go_simp; first | done | (with_reducible rfl) | fail "REGION: operation 2 is not decided")
  try simp only [Act.put, List.setIfInBounds_toArray, List.set_cons_zero, List.set_cons_succ]
  refine wpAnyH_take (i := 3) (oi := _) (v := ?_) rfl (by kernel_rfl) (by kernel_rfl) (by kernel_rfl) (fun _ _ _ h => h) (Or.inl ⟨by rfl, ?_⟩) (by assumption) ?_
  rotate_left; (intro w hSw; (try dsimp only at hSw); go_simp; first | done | (with_reducible rfl) | fail "REGION: operation 3 is not decided")
  try simp only [Act.put, List.setIfInBounds_toArray, List.set_cons_zero, List.set_cons_succ]
  refine wpAnyH_take (i := 4) (oi := _) (v := ?_) rfl (by kernel_rfl) (by kernel_rfl) (by kernel_rfl) (fun _ _ _ h => h) (Or.inl ⟨by rfl, ?_⟩) (by assumption) ?_
  rotate_left; (intro w hSw; (try dsimp only at hSw); go_simp; first | done | (with_reducible rfl) | fail "REGION: operation 4 is not decided")
  try simp only [Act.put, List.setIfInBounds_toArray, List.set_cons_zero, List.set_cons_succ]
  refine wpAnyH_ready (rs := [5]) (by kernel_rfl) (by simp) ?_
  refine AllReadyH.cons (o := _) rfl (fun K hK => ?_) AllReadyH.nil
  (go_simp; refine (sock_new_err now w1.drew).mono ?_; rintro e w2 ⟨rfl, hb2⟩)
  refine hK.out _ _ ?_ (fun hHeld => ?_)
  · (first | go_keep | exact ⟨(hb2.cell (p := ⟨w.heap.size, 0, none⟩) hlw).trans e0, (hb2.cell (p := ⟨w.heap.size, 1, none⟩) hlw).trans e1, (hb2.cell (p := ⟨w.heap.size, 2, none⟩) hlw).trans e2, (hb2.cell (p := ⟨w.heap.size, 3, none⟩) hlw).trans e3, (hb2.cell (p := ⟨w.heap.size, 4, none⟩) hlw).trans e4, (hb2.cell (p := ⟨bn, 2, none⟩) hltr).trans c2⟩)
  clear hK K
  try simp only [Act.put, List.setIfInBounds_toArray, List.set_cons_zero, List.set_cons_succ]
  refine wpAnyH_take (i := 6) (oi := _) (v := ?_) rfl (by kernel_rfl) (by kernel_rfl) (by kernel_rfl) (fun _ _ _ h => h) (Or.inl ⟨by rfl, ?_⟩) (by assumption) ?_
  rotate_left; (intro w hSw; (try dsimp only at hSw); go_simp; first | done | (with_reducible rfl) | fail "REGION: operation 6 is not decided")
  try simp only [Act.put, List.setIfInBounds_toArray, List.set_cons_zero, List.set_cons_succ]
  refine wpAnyH_take (i := 7) (oi := _) (v := ?_) rfl (by kernel_rfl) (by kernel_rfl) (by kernel_rfl) (fun _ _ _ h => h) (Or.inl ⟨by rfl, ?_⟩) (by assumption) ?_
  rotate_left; (intro w hSw; (try dsimp only at hSw); go_simp; first | done | (with_reducible rfl) | fail "REGION: operation 7 is not decided")
  try simp only [Act.put, List.setIfInBounds_toArray, List.set_cons_zero, List.set_cons_succ]
  refine wpAnyH_take (i := 8) (oi := _) (v := ?_) rfl (by kernel_rfl) (by kernel_rfl) (by kernel_rfl) (fun _ _ _ h => h) (Or.inl ⟨by rfl, ?_⟩) (by assumption) ?_
  rotate_left; (intro w hSw; (try dsimp only at hSw); go_simp; first | done | (with_reducible rfl) | fail "REGION: operation 8 is not decided")
  try simp only [Act.put, List.setIfInBounds_toArray, List.set_cons_zero, List.set_cons_succ]
  refine wpAnyH_take (i := 9) (oi := _) (v := ?_) rfl (by kernel_rfl) (by kernel_rfl) (by kernel_rfl) (fun _ _ _ h => h) (Or.inl ⟨by rfl, ?_⟩) (by assumption) ?_
  rotate_left; (intro w hSw; (try dsimp only at hSw); go_simp; first | done | (with_reducible rfl) | fail "REGION: operation 9 is not decided")
  try simp only [Act.put, List.setIfInBounds_toArray, List.set_cons_zero, List.set_cons_succ]
  refine wpAnyH_take (i := 10) (oi := _) (v := ?_) rfl (by kernel_rfl) (by kernel_rfl) (by kernel_rfl) (fun _ _ _ h => h) (Or.inl ⟨by rfl, ?_⟩) (by assumption) ?_
  rotate_left; (intro w hSw; (try dsimp only at hSw); go_simp; first | done | (with_reducible rfl) | fail "REGION: operation 10 is not decided")
  try simp only [Act.put, List.setIfInBounds_toArray, List.set_cons_zero, List.set_cons_succ]
  refine wpAnyH_done (by kernel_rfl) ?_ _
  refine NoPanic.normal ?_
  refine hK0 _ _ ?_
  clear hK0 hHeld
  try simp only [Act.put, List.setIfInBounds_toArray, List.set_cons_zero, List.set_cons_succ]
  have hb2' : Below w1.heap.size w1 w2 := ⟨hb2.os, hb2.tape, hb2.output, hb2.size, hb2.block⟩
  go_wp2
  go_ret2
  exact ⟨rfl, hb1.trans (hb2'.mono (by omega))⟩

def mAdd : Nat → ByteArray → Option Int
  | 0 => fun _ => none
  | c + 1 => addAll (c : Int) [addr4 (c + 1)] (mAdd c)
theorem mAdd_succ (c : Nat) (s : ByteArray) : mAdd (c + 1) s = if s = addr4 (c + 1) then some (c : Int) else mAdd c s := rfl
theorem mAdd_fresh (c x : Nat) (h : c < x) (hx : x < 256) : mAdd c (addr4 x) = none := by
  induction c with
  | zero => rfl
  | succ c ih =>
    rw [mAdd_succ, if_neg (fun e => by have := addr4_inj hx (by omega) e; omega)]
    exact ih (by omega)

set_option maxRecDepth 100000 in
set_option maxHeartbeats 4000000 in
theorem draws_start (seed s : ByteArray) (n : Nat) (ao : Option Addr) (cap : Nat) (h : 200 < seed.size ∨ 30 < n ∨ 100 < s.size) (w : World) :
    Calls Tryz.prog 4 #[.string seed, .slice ao n cap, .string s] w fun e w' => e = .returned (.bool true) ∧ Below w.heap.size w w' := by
  by_cases h1 : 200 < seed.size
  · have h1I : (200 : Int) < (seed.size : Int) := by omega
    clear h
    go_enter Tryz.func4, Tryz.ntmps4
    go_wp2_with fail
    refine (law_shown _).mono ?_
    rintro e w1 ⟨rfl, hb⟩
    go_wp2
    go_ret
    exact ⟨rfl, hb⟩
  · have h1I : ¬ (200 : Int) < (seed.size : Int) := by omega
    by_cases h2 : 30 < n
    · have h2I : (30 : Int) < (n : Int) := by omega
      clear h
      go_enter Tryz.func4, Tryz.ntmps4
      go_wp2_with fail
      refine (law_shown _).mono ?_
      rintro e w1 ⟨rfl, hb⟩
      go_wp2
      go_ret
      exact ⟨rfl, hb⟩
    · have h2I : ¬ (30 : Int) < (n : Int) := by omega
      have h3I : (100 : Int) < (s.size : Int) := by omega
      clear h
      go_enter Tryz.func4, Tryz.ntmps4
      go_wp2_with fail
      refine (law_shown _).mono ?_
      rintro e w1 ⟨rfl, hb⟩
      go_wp2
      go_ret
      exact ⟨rfl, hb⟩

set_option maxRecDepth 100000 in
set_option maxHeartbeats 8000000 in
theorem draws_walk (seed s : ByteArray) (lb lo n : Nat) (ao : Option Addr) (cap : Nat) (hs1 : seed.size ≤ 200) (hn : n ≤ 30) (hs2 : s.size ≤ 100) (xs : Nat → Int) (hao : 0 < n → ao = some ⟨lb, lo, none⟩) (w : World)
    (hc : ∀ j, j < n → w.cell? ⟨lb, lo + j, none⟩ = some (.int .i64 (xs j))) :
    Calls Tryz.prog 4 #[.string seed, .slice ao n cap, .string s] w fun e w' => e = .returned (.bool true) ∧ Below w.heap.size w w' := by
  have h1I : ¬ (200 : Int) < (seed.size : Int) := by omega
  have h2I : ¬ (30 : Int) < (n : Int) := by omega
  have h3I : ¬ (100 : Int) < (s.size : Int) := by omega
  have HC := Lib.hid hc
  have HAO := Lib.hid hao
  clear hc hao
  go_enter Tryz.func4, Tryz.ntmps4
  go_wp2_with fail
  refine (law_shown _).mono ?_
  rintro e w1 ⟨rfl, hb1⟩
  go_wp2_with fail
  refine (net_new _ w.heap.size _ hb1.size).mono ?_
  rintro e w2 ⟨bn, rfl, hN2, hb2⟩
  have hB2 : Below w.heap.size w w2 := hb1.trans (hb2.mono hb1.size)
  clear hb1 hb2
  go_wp2_with fail
  go_loopw [9, 10, 11] (fun k q i wr => ∃ (j : Nat) (nw : Int), j ≤ n ∧ i = .int .i64 (j : Int) ∧ k = .int .i64 (j : Int) ∧ q = .int .i64 nw ∧ 0 ≤ nw ∧ nw ≤ 1099511627776 ∧ NetAt w.heap.size bn seed (j : Int) nw 0 [] 0 (fun _ => none) (.map #[] 0) wr ∧ Below w.heap.size w wr) (fun _ _ i _ => (n - intOf i).toNat)
  case atStart => exact ⟨0, 0, by omega, rfl, rfl, rfl, by omega, by omega, hN2, hB2⟩
  case round =>
    obtain ⟨j, nw, hj, rfl, rfl, rfl, hnw0, hnw1, hN, hB⟩ := hrel
    by_cases hjl : j < n
    · have hjI : (j : Int) < (n : Int) := by omega
      have hao := HAO.out (by omega)
      subst hao
      have cx := HC.out j hjl
      have hlb : lb < w.heap.size := block_lt_of_cell cx
      obtain ⟨x, hxe⟩ : ∃ x, x = xs j := ⟨_, rfl⟩
      rw [← hxe] at cx
      clear hxe
      have HCX := Lib.hid cx
      clear cx
      go_wp2_with fail
      refine (net_draw w.heap.size bn 0 j (by omega) seed (by omega) nw 0 [] _ _ _ hN).mono ?_
      rintro e w3 ⟨rfl, hN3, hb3, _⟩
      have hB3 := hB.trans hb3
      clear hN hB hb3
      go_wp2_with fail
      refine (law_drawn seed (by omega) j (by omega) _).mono ?_
      rintro e w4 ⟨rfl, hb4⟩
      have hN4 := hN3.below hb4
      have hB4 := hB3.trans (hb4.mono hB3.size)
      clear hN3 hB3 hb4
      generalize drawWord (drawText seed j) = z
      go_wp2_with fail
      refine (net_now w.heap.size bn 0 seed _ nw 0 [] _ _ _ hN4).mono ?_
      rintro e w5 ⟨rfl, rfl⟩
      have cx : w5.cell? ⟨lb, lo + j, none⟩ = some (.int .i64 x) := (hB4.cell (p := ⟨lb, lo + j, none⟩) hlb).trans HCX.out
      go_wp2_with fail
      refine (net_wait0 w.heap.size bn 0 seed _ nw 0 _ _ _ hN4 x hnw0 hnw1).mono ?_
      rintro e w6 ⟨rfl, hN6, hb6⟩
      have hB6 := hB4.trans hb6
      clear hN4 hB4 hb6 cx
      have cx : w6.cell? ⟨lb, lo + j, none⟩ = some (.int .i64 x) := (hB6.cell (p := ⟨lb, lo + j, none⟩) hlb).trans HCX.out
      obtain ⟨r0, r1⟩ := waited_range (ms := x) hnw0 hnw1
      by_cases hx1 : 1 ≤ x
      · by_cases hx2 : x ≤ 1073741824
        · by_cases hx3 : nw + x ≤ 1099511627776
          · have e : waited nw x = nw + x := by unfold waited; rw [if_pos ⟨hx1, hx2, hx3⟩]
            rw [e] at hN6 r0 r1
            clear e
            go_wp2
            go_roundw
            case rel => exact ⟨j + 1, nw + x, by omega, by go_num, by go_num, rfl, r0, r1, hN6, hB6⟩
            case measure => simp [intOf]; omega
          · have e : waited nw x = nw := by unfold waited; rw [if_neg (by omega)]
            rw [e] at hN6
            clear e
            go_wp2
            go_roundw
            case rel => exact ⟨j + 1, nw, by omega, by go_num, by go_num, rfl, hnw0, hnw1, hN6, hB6⟩
            case measure => simp [intOf]; omega
        · have e : waited nw x = nw := by unfold waited; rw [if_neg (by omega)]
          rw [e] at hN6
          clear e
          go_wp2
          go_roundw
          case rel => exact ⟨j + 1, nw, by omega, by go_num, by go_num, rfl, hnw0, hnw1, hN6, hB6⟩
          case measure => simp [intOf]; omega
      · have e : waited nw x = nw := by unfold waited; rw [if_neg (by omega)]
        rw [e] at hN6
        clear e
        go_wp2
        go_roundw
        case rel => exact ⟨j + 1, nw, by omega, by go_num, by go_num, rfl, hnw0, hnw1, hN6, hB6⟩
        case measure => simp [intOf]; omega
    · have hjI : ¬ ((j : Int) < (n : Int)) := by omega
      clear HAO HC hjl
      go_wp2_with fail
      go_loopw [12] (fun i wr => ∃ (c k : Nat) (es : List Value), c ≤ 9 ∧ i = .int .i64 (c : Int) ∧ es.length = min c 8 ∧ k ≤ c ∧ Ptrs es ∧ NetAt w.heap.size bn seed (j : Int) nw 0 es k (mAdd (min c 8)) (.map #[] 0) wr ∧ Below w.heap.size w wr) (fun i _ => (9 - intOf i).toNat)
      case atStart => exact ⟨0, 0, [], by omega, rfl, rfl, by omega, Ptrs.nil, hN, hB⟩
      case round =>
        clear hN hB
        obtain ⟨c, k, es, hc9, rfl, hel, hk, hP, hN, hB⟩ := hrel
        by_cases hcl : c < 9
        · have hcI : (c : Int) < 9 := by omega
          go_wp2_with fail
          refine (law_config_at c (c + 1) rfl (by omega) _ rfl _).mono ?_
          rintro e w3 ⟨g, rfl, hg, hcg, hb3⟩
          have hN3 := hN.below hb3
          have hB3 := hB.trans (hb3.mono hB.size)
          clear hN hB hb3
          go_wp2_with fail
          by_cases h8 : c = 8
          · have hel8 : es.length = 8 := by rw [hel, h8]; rfl
            refine (net_add_full w.heap.size bn k _ _ _ 0 es _ _ _ hel8 hN3 [_, _, _, _, _] ⟨_, _, _, _, _, rfl⟩).mono ?_
            rintro e w5 ⟨rfl, hb5⟩
            have hN5 := hN3.below hb5
            have hB5 := hB3.trans (hb5.mono hB3.size)
            have t1 : ((c : Int) == 8) = true := by rw [h8]; rfl
            have t2 : ¬ (c : Int) < 8 := by omega
            clear hN3 hB3 hb5 hcg
            have H8 := Lib.hid h8
            have HEL := Lib.hid hel
            clear h8 hel
            go_wp2
            go_roundw
            case rel => exact ⟨c + 1, k, es, by omega, by go_num, by rw [HEL.out, H8.out]; rfl, by omega, hP, by have h := hN5; rw [H8.out] at h ⊢; exact h, hB5⟩
            case measure => simp [intOf]; omega
          · have hel8 : es.length = c := by rw [hel]; omega
            have hm8 : min c 8 = c := by omega
            rw [hm8] at hN3
            refine (net_add w.heap.size bn k seed _ _ 0 es (mAdd c) _ _ (by omega) (by omega) hN3 g 1 1 [addr4 (c + 1)] _ _ _ _ rfl (by intro s hs; obtain rfl := List.mem_singleton.1 hs; exact addr4_size _) (by decide) (by decide) (by intro j hj; obtain rfl : j = 0 := (by omega); exact hcg) (by omega) (by decide) (by decide) (.inr trivial)).mono ?_
            rintro e w5 (⟨⟨s, hs, hne⟩, _⟩ | ⟨_, be, rfl, hN5, hb5, _⟩)
            · obtain rfl := List.mem_singleton.1 hs
              exact absurd (mAdd_fresh c (c + 1) (by omega) (by omega)) hne
            · have hB5 := hB3.trans hb5
              have t2 : (c : Int) < 8 := by omega
              have HNF : Hid (NetAt w.heap.size bn seed (j : Int) nw 0 (es ++ [.pointer (some ⟨be, 0, none⟩)]) (k + 1) (mAdd (min (c + 1) 8)) (.map #[] 0) w5) := by
                rw [show min (c + 1) 8 = c + 1 by omega]
                rw [hel8] at hN5
                exact hN5
              clear hN3 hB3 hb5 hcg hN5
              have HEL := Lib.hid hel8
              rw [hel8]
              clear hel hel8 hm8 h8
              go_wp2
              go_roundw
              case rel => exact ⟨c + 1, k + 1, es ++ [.pointer (some ⟨be, 0, none⟩)], by omega, by go_num, by rw [List.length_append, HEL.out]; show c + 1 = _; omega, by omega, hP.snoc be, HNF.out, hB5⟩
              case measure => simp [intOf]; omega
        · have hcI : ¬ (c : Int) < 9 := by omega
          obtain rfl : c = 9 := by omega
          rw [show min 9 8 = 8 from rfl] at hel hN
          go_wp2_with fail
          refine (net_new seed w.heap.size _ hB.size).mono ?_
          rintro e w3 ⟨bn2, rfl, hN2, hb3⟩
          have hN3 := hN.below hb3
          have hB3 := hB.trans (hb3.mono hB.size)
          clear hN hB hb3
          go_wp2_with fail
          refine (net_add_err w.heap.size bn2 0 seed 0 0 0 _ _ _ hN2).mono ?_
          rintro e w4 ⟨rfl, hb4⟩
          have hN4 := hN3.below hb4
          have hB4 := hB3.trans (hb4.mono hB3.size)
          clear hN3 hB3 hb4 hN2
          go_wp2_with fail
          go_loopw [17, 18] (fun q i wr => ∃ c : Nat, c ≤ 8 ∧ i = .int .i64 (c : Int) ∧ q = .int .i64 ((mAdd c s).getD (-1)) ∧ NetAt w.heap.size bn seed (j : Int) nw 0 es k (mAdd 8) (.map #[] 0) wr ∧ Below w.heap.size w wr) (fun _ i _ => (8 - intOf i).toNat)
          case atStart => exact ⟨0, by omega, rfl, rfl, hN4, hB4⟩
          case round =>
            clear hN4 hB4
            obtain ⟨c, hc8, rfl, rfl, hN, hB⟩ := hrel
            by_cases hcl : c < 8
            · have hcI : (c : Int) < 8 := by omega
              go_wp2_with fail
              refine (law_address_at c (c + 1) rfl (by omega) _).mono ?_
              rintro e w5 ⟨rfl, hb5⟩
              have hN5 := hN.below hb5
              have hB5 := hB.trans (hb5.mono hB.size)
              clear hN hB hb5
              obtain ⟨q, hq⟩ : ∃ q, Hid (q = (mAdd c s).getD (-1)) := ⟨_, Lib.hid rfl⟩
              rw [← hq.out]
              by_cases he : s = addr4 (c + 1)
              · have t1 : ((addr4 (c + 1)).toList == s.toList) = true := (Lib.bytes_beq_iff _ _).2 he.symm
                have HE := Lib.hid he
                clear he
                go_wp2
                go_roundw
                case rel => exact ⟨c + 1, by omega, by go_num, by rw [mAdd_succ, if_pos HE.out]; rfl, hN5, hB5⟩
                case measure => simp [intOf]; omega
              · have t1 : ((addr4 (c + 1)).toList == s.toList) = false := (Lib.bytes_beq_false_iff _ _).2 (fun e => he e.symm)
                have HE := Lib.hid he
                clear he
                go_wp2
                go_roundw
                case rel => exact ⟨c + 1, by omega, by go_num, by rw [mAdd_succ, if_neg HE.out, hq.out], hN5, hB5⟩
                case measure => simp [intOf]; omega
            · have hcI : ¬ (c : Int) < 8 := by omega
              obtain rfl : c = 8 := by omega
              have HEL := Lib.hid hel
              clear hel
              have hown := net_owner w.heap.size bn k seed s (by unfold maxLen; omega) _ _ _ es _ _ _ hN
              obtain ⟨q, hq⟩ : ∃ q, q = (mAdd 8 s).getD (-1) := ⟨_, rfl⟩
              rw [← hq] at hown ⊢
              clear hq
              have HOWN := Lib.hid hown
              clear hown
              obtain ⟨be, hbe⟩ := hP.at 0 (by have := HEL.out; omega)
              have HBE := Lib.hid hbe
              clear hbe
              have hes8 : es.length ≤ 8 := by have := HEL.out; omega
              go_wp2_with fail
              refine HOWN.out.mono ?_
              rintro e w5 ⟨rfl, rfl⟩
              go_wp2_with fail
              have hE8 := net_end_none w.heap.size bn k seed _ _ _ es _ _ _ hes8 hN
              rw [show ((es.length : Nat) : Int) = 8 by rw [HEL.out]; rfl] at hE8
              refine hE8.mono ?_
              clear hE8
              rintro e w6 ⟨rfl, rfl⟩
              go_wp2_with fail
              refine (net_end w.heap.size bn k seed _ _ _ (-1) es _ _ _ (by omega) hes8 hN).mono ?_
              rintro e w7 ⟨rfl, rfl⟩
              rw [if_pos (by omega)]
              go_wp2_with fail
              refine (net_end_some w.heap.size bn k seed _ _ _ 0 es _ _ _ hes8 0 be rfl HBE.out hN).mono ?_
              rintro e w8 ⟨rfl, rfl⟩
              go_wp2
              go_ret
              exact ⟨rfl, hB⟩
end Go.Proofs.YtjpdagfdcniphaaGreatDoor
