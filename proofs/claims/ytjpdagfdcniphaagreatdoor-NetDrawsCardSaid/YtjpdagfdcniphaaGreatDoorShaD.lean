/- SHA-256: the reference's block -/
import Derived.Test.YtjpdagfdcniphaaGreatDoorShaC
set_option linter.unusedVariables false
set_option linter.unusedSimpArgs false
namespace Go.Proofs.YtjpdagfdcniphaaGreatDoor
open Go.RowKit

set_option maxRecDepth 100000 in
set_option maxHeartbeats 4000000 in
theorem ref_block (v : Value) (base : Nat) (r : List Int) (s : ByteArray) (hs : s.size = 64) (hrr : ∀ x ∈ r, ShaS.W32 x) (w : World) (hv : w.ownsRow base 34 1 v 8 (r.map (.int .u32))) :
    Calls Tryz.prog 54 #[v, .string s] w fun e w' => ∃ v', e = .returned v' ∧ w'.ownsRow w.heap.size 34 1 v' 8 ((ShaS.block r (bytesOf s)).map (.int .u32)) ∧ Below w.heap.size w w' := by
  obtain ⟨i0, hi, hz0, hz1, hz2⟩ := info_parts info_u32
  obtain ⟨gv, cv, rfl, hgv0, hgv1⟩ := hv.form (by omega)
  have hcv : ∀ j u, (r.map (Value.int .u32))[j]? = some u → w.cell? ⟨gv, j, none⟩ = some u := fun j u hj => by
    rw [hv.cellAt j (by have := (List.getElem?_eq_some_iff.1 hj).1; rw [hv.1] at this; exact this)]; exact hj
  have HCV := Lib.hid hcv
  clear hcv
  have HRR := Lib.hid hrr
  clear hrr
  obtain ⟨W, HW⟩ : ∃ W, Hid (W = ShaS.wl (bytesOf s) 64) := ⟨_, Lib.hid rfl⟩
  go_enter Tryz.func54, Tryz.ntmps54
  go_wp2_with fail
  refine (ref_words s hs _).mono ?_
  rintro e w1 ⟨vw, rfl, hw1, hb1⟩
  rw [← HW.out] at hw1
  go_wp2_with fail
  refine (ref_constants _).mono ?_
  rintro e w2 ⟨vk, rfl, hk2, hb2⟩
  have hw2 := own_below hw1 hb2 (own_lt hw1)
  have hb12 : Below w.heap.size w w2 := hb1.trans (hb2.mono hb1.size)
  have hs12 := hb12.size
  have HN : ∀ (o : Obj) (j : Nat) (u : Value), (r.map (Value.int .u32))[j]? = some u → (w2.alloc o).cell? ((⟨gv, 0, none⟩ : Addr).add j) = some u := by
    intro o j u hj
    rw [Addr.add_lit, Nat.zero_add, (hb12.alloc hs12 o).cell (p := ⟨gv, j, none⟩) hgv1]
    exact HCV.out j u hj
  have HN' := Lib.hid HN
  clear HN
  go_wp2_with (refine wpList_append_keep rfl _ _ _ rfl w.heap.size 34 i0 _ 1 4 Tryz.underlying112 hi hz0 hz1 hz2 rfl (by decide) (.slice (some ⟨w2.heap.size, 0, none⟩) 0 0) 0 [] rfl (World.ownsRow_lit w2 #[] 0 (by omega) (by decide) rfl) ⟨gv, 0, none⟩ 8 cv (r.map (.int .u32)) rfl (by rw [hv.1]) (HN'.out _) (by intro u hu; simp at hu; obtain ⟨_, _, rfl⟩ := hu; rfl) (by omega) (by decide) (by decide) (by simp; omega) ?_; intro gs cs w3 hA)
  have hb3 : Below w.heap.size w w3 := Below.appended (by have hsz := (hb12).size; repeat' (first | exact hb12 | refine Below.drew ?_ | refine below_drewN ?_ _ | refine Below.alloc ?_ (by first | omega | (simp; omega)) _)) hA (by simp; omega) (by intro k hk; simp [Value.ownBlock] at hk; omega)
  have hw3 : w3.ownsRow w.heap.size 34 1 vw 64 (W.map (.int .u32)) := by
    refine own_below hw2 ⟨hA.grown.os, hA.grown.tape, hA.grown.output, ?_, ?_⟩ (own_lt hw2)
    · have := hA.grown.size; simp at this; omega
    · intro k hk
      rw [hA.grown.block k (by simp; omega) (by simp [Value.ownBlock]; omega)]
      exact Below.heap_alloc _ _ _ hk
  have hk3 : w3.ownsRow w.heap.size 34 1 vk 64 (ShaS.ks.map (.int .u32)) := by
    refine own_below (own_base hk2 (fun k hk => by have := own_ge hk2 k hk; have := hb1.size; omega)) ⟨hA.grown.os, hA.grown.tape, hA.grown.output, ?_, ?_⟩ (own_lt hk2)
    · have := hA.grown.size; simp at this; omega
    · intro k hk
      rw [hA.grown.block k (by simp; omega) (by simp [Value.ownBlock]; omega)]
      exact Below.heap_alloc _ _ _ hk
  have hs3 := hA.own
  rw [List.nil_append] at hs3
  clear hA hw2 hk2 hw1 hb1 hb2 HN'
  rw [Nat.zero_add] at hs3
  have HSL : ∀ t, (ShaS.rounds r W t).length = 8 := ShaS.rounds_length (by simpa using hv.1) W
  have HSLh := Lib.hid HSL
  clear HSL
  have HSR : ∀ t, ∀ x ∈ ShaS.rounds r W t, ShaS.W32 x := ShaS.rounds_range HRR.out W
  have HSRh := Lib.hid HSR
  clear HSR
  go_wp2_with fail
  go_loopw [7, 8] (fun vs i wr => ∃ t : Nat, t ≤ 64 ∧ i = .int .i64 t ∧ wr.ownsRow w.heap.size 34 1 vs 8 ((ShaS.rounds r W t).map (.int .u32)) ∧ wr.ownsRow w.heap.size 34 1 vw 64 (W.map (.int .u32)) ∧ wr.ownsRow w.heap.size 34 1 vk 64 (ShaS.ks.map (.int .u32)) ∧ Below w.heap.size w wr) (fun _ i _ => 64 - (intOf i).toNat)
  case atStart => exact ⟨0, by omega, rfl, hs3, hw3, hk3, hb3⟩
  case round =>
    clear hb12 hs12 hb3 hw3 hk3 hs3
    obtain ⟨t, ht, rfl, hs3, hw3, hk3, hb3⟩ := hrel
    obtain ⟨gs, cs, rfl, hgs0, hgs1⟩ := hs3.form (by omega)
    by_cases hlt : t < 64
    · obtain ⟨gw, cw, rfl, hgw0, hgw1⟩ := hw3.form (by omega)
      obtain ⟨gk, ck, rfl, hgk0, hgk1⟩ := hk3.form (by omega)
      obtain ⟨y0, Y0, c0, m0⟩ := num_at hs3 0 (by omega)
      obtain ⟨y1, Y1, c1, m1⟩ := num_at hs3 1 (by omega)
      obtain ⟨y2, Y2, c2, m2⟩ := num_at hs3 2 (by omega)
      obtain ⟨y3, Y3, c3, m3⟩ := num_at hs3 3 (by omega)
      obtain ⟨y4, Y4, c4, m4⟩ := num_at hs3 4 (by omega)
      obtain ⟨y5, Y5, c5, m5⟩ := num_at hs3 5 (by omega)
      obtain ⟨y6, Y6, c6, m6⟩ := num_at hs3 6 (by omega)
      obtain ⟨y7, Y7, c7, m7⟩ := num_at hs3 7 (by omega)
      obtain ⟨yw, YW, cw', mw⟩ := num_at hw3 t (by omega)
      obtain ⟨yk, YK, ck', mk⟩ := num_at hk3 t (by omega)
      obtain ⟨l0, u0⟩ := HSRh.out t _ m0
      obtain ⟨l4, u4⟩ := HSRh.out t _ m4
      have htI : (t : Int) < 64 := by omega
      go_wp2_with fail
      go_quiet ((go_at_call 89; first | exact Calls.quiet_of (ref_right _ _ (by assumption) (by assumption) (by omega) (by omega) _) | exact quiet_add (ref_right _ _ (by assumption) (by assumption) (by omega) (by omega) _)))
      go_wp2_with fail
      go_quiet ((go_at_call 89; first | exact Calls.quiet_of (ref_right _ _ (by assumption) (by assumption) (by omega) (by omega) _) | exact quiet_add (ref_right _ _ (by assumption) (by assumption) (by omega) (by omega) _)))
      go_wp2_with fail
      go_region_held3 (fun w' => w'.cell? ⟨gs, 0, none⟩ = some (.int .u32 y0) ∧ w'.cell? ⟨gs, 1, none⟩ = some (.int .u32 y1) ∧ w'.cell? ⟨gs, 2, none⟩ = some (.int .u32 y2) ∧ w'.cell? ⟨gs, 3, none⟩ = some (.int .u32 y3) ∧ w'.cell? ⟨gs, 4, none⟩ = some (.int .u32 y4) ∧ w'.cell? ⟨gs, 5, none⟩ = some (.int .u32 y5) ∧ w'.cell? ⟨gs, 6, none⟩ = some (.int .u32 y6)) (go_keep) (fail)
      go_wp2
      go_roundw
      case rel =>
        have e : (ShaS.rounds r W (t + 1)).map (Value.int .u32) = [.int .u32 (((y7 + ShaS.oneX y4 + ShaS.oneY y4 y5 y6 + yk + yw) % 4294967296 + (ShaS.twoX y0 + ShaS.twoY y0 y1 y2) % 4294967296) % 4294967296), .int .u32 y0, .int .u32 y1, .int .u32 y2, .int .u32 ((y3 + (y7 + ShaS.oneX y4 + ShaS.oneY y4 y5 y6 + yk + yw) % 4294967296) % 4294967296), .int .u32 y4, .int .u32 y5, .int .u32 y6] := by
          show List.map _ (ShaS.rnd (ShaS.rounds r W t) (ShaS.ks.getD t 0) (W.getD t 0)) = _
          unfold ShaS.rnd ShaS.one ShaS.two
          rw [← Y0.out, ← Y1.out, ← Y2.out, ← Y3.out, ← Y4.out, ← Y5.out, ← Y6.out, ← Y7.out, ← YW.out, ← YK.out]
          rfl
        have hsz := hb3.size
        refine ⟨t + 1, by omega, by go_num, ?_, (own_drewN hw3 _).alloc _, (own_drewN hk3 _).alloc _, (by have hsz := (hb3).size; repeat' (first | exact hb3 | refine Below.drew ?_ | refine below_drewN ?_ _ | refine Below.alloc ?_ (by first | omega | (simp; omega)) _))⟩
        rw [e]
        exact World.ownsRow_lit (wr.drewN _) _ 8 hsz (by decide) rfl
      case measure => simp [intOf]; omega
    · have ht64 : t = 64 := by omega
      subst ht64
      obtain ⟨S, HSe⟩ : ∃ S, Hid (S = ShaS.rounds r W 64) := ⟨_, Lib.hid rfl⟩
      rw [← HSe.out] at hs3
      have hS8 : S.length = 8 := by rw [HSe.out]; exact HSLh.out 64
      have HS8 := Lib.hid hS8
      clear hS8
      have hrl : r.length = 8 := by have := hv.1; simpa using this
      have HRL := Lib.hid hrl
      clear hrl
      clear hw3 hk3
      go_wp2_with fail
      rw [show ((64 : Nat) : Int) = 64 from rfl]
      go_loopw [13] (fun i wr => ∃ j : Nat, j ≤ 8 ∧ i = .int .i64 j ∧ wr.ownsRow w.heap.size 34 1 (.slice (some ⟨gs, 0, none⟩) 8 cs) 8 ((ShaS.addTo S r j).map (.int .u32)) ∧ Below w.heap.size w wr) (fun i _ => 8 - (intOf i).toNat)
      case atStart => exact ⟨0, by omega, rfl, hs3, hb3⟩
      case round =>
        clear hs3 hb3
        obtain ⟨j, hj, rfl, hs3, hb3⟩ := hrel
        by_cases hlt : j < 8
        · obtain ⟨y, Y, c, m⟩ := num_at hs3 j (by omega)
          obtain ⟨z, Z, cz, mz⟩ := num_at hv j (by omega)
          have cz' : wr.cell? ⟨gv, j, none⟩ = some (.int .u32 z) := by rw [hb3.cell (p := ⟨gv, j, none⟩) hgv1]; exact cz
          have hf := hs3.frozenAt j
          have hjI : (j : Int) < 8 := by omega
          go_wp2_with fail
          go_still_tail 11, (by kernel_rfl)
          change wpList _ _ _ _ _ wr.drew
          go_wp2
          go_roundw
          case rel =>
            obtain ⟨h1, h2⟩ := hs3.stored j (.int .u32 ((y + z) % 4294967296))
            refine ⟨j + 1, by omega, by go_num, ?_, (Below.drew hb3).grown ⟨h2.os, h2.tape, h2.output, h2.size, h2.block⟩ hb3.size (by rintro k ⟨rfl⟩; exact hgs0)⟩
            have e : (ShaS.addTo S r (j + 1)).map (Value.int .u32) = ((ShaS.addTo S r j).map (Value.int .u32)).set j (.int .u32 ((y + z) % 4294967296)) := by
              simp only [ShaS.addTo, List.map_set]
              rw [Y.out, Z.out, ShaS.addTo_later S r j j (Nat.le_refl _)]
            rw [e]
            exact h1
          case measure => simp [intOf]; omega
        · have hj8 : j = 8 := by omega
          subst hj8
          go_wp2
          go_ret
          refine ⟨_, rfl, ?_, hb3⟩
          unfold ShaS.block
          rw [← HW.out, ← HSe.out, ← ShaS.addTo_all S r HS8.out]
          exact hs3
end Go.Proofs.YtjpdagfdcniphaaGreatDoor
