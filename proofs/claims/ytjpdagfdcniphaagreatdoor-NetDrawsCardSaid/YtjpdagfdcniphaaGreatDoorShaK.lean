/- SHA-256: what the program puts behind a text -/
import Derived.Test.YtjpdagfdcniphaaGreatDoorShaA
import Derived.Test.YtjpdagfdcniphaaGreatDoorBld
import Derived.Test.YtjpdagfdcniphaaGreatDoorShelf
set_option linter.unusedVariables false
set_option linter.unusedSimpArgs false
namespace Go.Proofs.YtjpdagfdcniphaaGreatDoor
open Go.RowKit

theorem asBuilder : AsBuilder 107 := ⟨by kernel_rfl, by decide⟩
theorem asHash : AsBuilder 109 := ⟨by kernel_rfl, by decide⟩

theorem repeat_nought (c : Nat) : (⟨(Lib.repeatL [0] c).toArray⟩ : ByteArray) = strOfNums (List.replicate c 0) := by
  have : Lib.repeatL [0] c = List.replicate c 0 := by
    induction c with
    | zero => rfl
    | succ c ih => rw [Lib.repeatL, ih]; rfl
  rw [this]
  simp [strOfNums]

set_option maxRecDepth 100000 in
set_option maxHeartbeats 2000000 in
theorem sha_pad (n : Nat) (hn : n < 1000000000000) (w : World) :
    Calls Tryz.prog 83 #[.int .i64 n] w fun e w' => e = .returned (.string (strOfNums (ShaS.pad n))) ∧ Below w.heap.size w w' := by
  obtain ⟨z, hzz, hz, hpz⟩ : ∃ z : Nat, z = ShaS.padZ n ∧ z < 64 ∧ -(((n : Int) + 9) % 64) % 64 = (z : Int) := by
    refine ⟨ShaS.padZ n, rfl, ?_, ?_⟩ <;> unfold ShaS.padZ <;> omega
  have HZ := Lib.hid hzz
  clear hzz
  have hneg : ¬ (n : Int) < 0 := by omega
  have hrep : ∀ w : World, Calls Tryz.prog 138 #[.string ⟨#[0]⟩, .int .i64 (z : Int)] w fun e w' => e = .returned (.string (strOfNums (List.replicate z 0))) ∧ Below w.heap.size w w' := by
    intro w
    rw [← repeat_nought]
    exact Tryz.strings_Repeat ⟨#[0]⟩ z w (by omega) (by show 1 * _ ≤ _; omega)
  have HREP := Lib.hid hrep
  clear hrep
  go_enter Tryz.func83, Tryz.ntmps83
  go_wp2_with fail
  try rw [hpz]
  have hb0 : Bld 107 w.heap.size w.heap.size [] (w.alloc (.cells #[.pointer none, .slice none 0 0] 107)) := Bld.new _ _ w (Nat.le_refl _)
  have hbel : Below w.heap.size w (w.alloc (.cells #[.pointer none, .slice none 0 0] 107)) := (Below.refl _ _).alloc (Nat.le_refl _) _
  refine (HREP.out _).mono ?_
  rintro e w1 ⟨rfl, hb1⟩
  replace hb0 := hb0.below hb1
  replace hbel := hbel.trans (hb1.mono (by simp))
  clear hb1
  have hlt1 := hb0.lt
  have hadd : ∀ w : World, (Op.stringOp .add (⟨#[128]⟩ : ByteArray) (strOfNums (List.replicate z 0))).run Tryz.prog w = .ok (.string (strOfNums (128 :: List.replicate z 0))) w := by
    intro w
    rw [show (128 :: List.replicate z 0 : List Int) = [128] ++ List.replicate z 0 from rfl, strOfNums_append]
    exact run_string_add_sum w _ _ (by rw [strOfNums_size, List.length_replicate]; show 1 + z ≤ _; omega)
  go_wp2_with ((go_at_call 80; refine (b_writeString _ asBuilder w.heap.size w.heap.size [] _ _ hb0 (by rw [strOfNums_size]; simp; omega) (by omega)).mono ?_))
  rintro e w2 ⟨rfl, hb2, hbl2⟩
  have hbs : [] ++ bytesOf (strOfNums (128 :: List.replicate z 0)) = 128 :: List.replicate z 0 ++ ShaS.be8 (n * 8 : Int) 0 := by
    rw [bytesOf_strOfNums]
    · simp [ShaS.be8]
    · intro x hx
      rcases List.mem_cons.1 hx with rfl | hx
      · constructor <;> omega
      · rw [List.eq_of_mem_replicate hx]; constructor <;> omega
  rw [hbs] at hb2
  replace hbel := hbel.trans hbl2
  clear hbs hadd hbl2 hb0 hlt1
  go_wp2_with fail
  go_loopw [5] (fun i wr => ∃ j : Nat, j ≤ 8 ∧ i = .int .i64 (7 - (j : Int)) ∧ Bld 107 w.heap.size w.heap.size (128 :: List.replicate z 0 ++ ShaS.be8 (n * 8 : Int) j) wr ∧ Below w.heap.size w wr) (fun i _ => (intOf i + 1).toNat)
  case atStart => exact ⟨0, by omega, rfl, hb2, hbel⟩
  case round =>
    clear hb2 hbel
    obtain ⟨j, hj, rfl, hb2, hbel⟩ := hrel
    have hlt2 := hb2.lt
    by_cases hlt : j < 8
    · have d0 : (0 : Int) ≤ 7 - (j : Int) := by omega
      have d1 : (j : Int) ≤ 7 := by omega
      go_wp2_with ((go_at_call 139; refine (b_writeByte _ asBuilder w.heap.size w.heap.size _ _ (by omega) (by omega) _ hb2 ?_ (by omega)).mono ?_))
      · simp [ShaS.be8_length]; omega
      rintro e w3 ⟨rfl, hb3, hbl3⟩
      go_wp2
      go_roundw
      case rel =>
        refine ⟨j + 1, by omega, by go_num, ?_, hbel.trans hbl3⟩
        rw [ShaS.be8_succ, ← List.append_assoc]
        simpa using hb3
      case measure => simp [intOf]; omega
    · have hj8 : j = 8 := by omega
      subst hj8
      have e : (128 :: List.replicate z 0 ++ ShaS.be8 (n * 8 : Int) 8) = ShaS.pad n := by rw [HZ.out]; rfl
      rw [e] at hb2
      clear e
      go_wp2_with ((go_at_call 82; refine (b_string _ w.heap.size w.heap.size _ _ hb2 (by omega)).mono ?_; rintro e w3 ⟨rfl, hk⟩))
      go_ret
      exact ⟨rfl, hbel.trans (hb2.below_of_buf hk (Nat.le_refl _))⟩
end Go.Proofs.YtjpdagfdcniphaaGreatDoor
