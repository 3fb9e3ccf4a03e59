/- law 21: shown -/
import Derived.Test.YtjpdagfdcniphaaGreatDoorNetD
set_option linter.unusedVariables false
set_option linter.unusedSimpArgs false
namespace Go.Proofs.YtjpdagfdcniphaaGreatDoor
open Go.RowKit Go.Maps

theorem drawWord_seed0 : drawWord (drawText ⟨#[115, 101, 101, 100]⟩ 0) = drawWord ⟨#[115, 101, 101, 100, 47, 48]⟩ := by
  rw [drawText_zero]
  exact congrArg drawWord (by decide)

theorem shown_map_x : addAll 0 [(⟨#[10, 0, 0, 1]⟩ : ByteArray)] (fun _ => none) ⟨#[120]⟩ = none := by decide
theorem shown_map_a : addAll 0 [(⟨#[10, 0, 0, 1]⟩ : ByteArray)] (fun _ => none) ⟨#[10, 0, 0, 1]⟩ = some 0 := by decide

set_option maxRecDepth 100000 in
set_option maxHeartbeats 2000000 in
theorem law_shown (w : World) :
    Calls Tryz.prog 7 #[] w fun e w' => e = .returned (.bool true) ∧ Below w.heap.size w w' := by
  go_enter Tryz.func7, Tryz.ntmps7
  go_wp2_with fail
  refine (net_new _ w.heap.size _ (Nat.le_refl _)).mono ?_
  rintro e w1 ⟨bn, rfl, hN1, hb1⟩
  go_wp2_with fail
  refine (law_config _).mono ?_
  rintro e w2 ⟨g, rfl, hg, hcg, hb2⟩
  have hN2 := hN1.below hb2
  have hB2 : Below w.heap.size w w2 := hb1.trans (hb2.mono hb1.size)
  clear hN1 hb1 hb2
  go_wp2_with fail
  refine (net_add w.heap.size bn 0 _ 0 0 0 [] (fun _ => none) _ _ (by decide) (by decide) hN2 g 1 1 [⟨#[10, 0, 0, 1]⟩] ⟨#[107, 101, 121]⟩ 7 60000 4 rfl (by intro s hs; obtain rfl := List.mem_singleton.1 hs; rfl) (by decide) (by decide) (by intro j hj; obtain rfl : j = 0 := (by omega); exact hcg) (by decide) (by decide) (by decide) (.inr trivial)).mono ?_
  rintro e w3 (⟨⟨s, hs, hm⟩, _⟩ | ⟨_, be, rfl, hN3, hb3, _⟩)
  · exact absurd rfl hm
  have hB3 : Below w.heap.size w w3 := hB2.trans hb3
  clear hN2 hB2 hb3 hcg
  simp only [List.length_nil, List.nil_append, Nat.zero_add] at hN3 ⊢
  go_wp2_with fail
  refine (net_deliver_none w.heap.size bn _ _ _ _ _ _ _ _ hN3).mono ?_
  rintro e w4 ⟨rfl, rfl⟩
  go_wp2_with fail
  have hx := net_owner w.heap.size bn _ _ ⟨#[120]⟩ (by decide) _ _ _ _ _ _ _ hN3
  have ha := net_owner w.heap.size bn _ _ ⟨#[10, 0, 0, 1]⟩ (by decide) _ _ _ _ _ _ _ hN3
  rw [show addAll (((0 : Nat) : Int)) [(⟨#[10, 0, 0, 1]⟩ : ByteArray)] (fun _ => none) ⟨#[120]⟩ = none from shown_map_x] at hx
  refine hx.mono ?_
  clear hx ha
  rintro e w5 ⟨rfl, rfl⟩
  simp only [Option.getD]
  go_wp2_with fail
  refine (law_address _).mono ?_
  rintro e w6 ⟨rfl, hb6⟩
  have hN6 := hN3.below hb6
  have hB6 : Below w.heap.size w w6 := hB3.trans (hb6.mono hB3.size)
  clear hN3 hb6 hB3
  go_wp2_with fail
  have ha := net_owner w.heap.size bn _ _ ⟨#[10, 0, 0, 1]⟩ (by decide) _ _ _ _ _ _ _ hN6
  rw [show addAll (((0 : Nat) : Int)) [(⟨#[10, 0, 0, 1]⟩ : ByteArray)] (fun _ => none) ⟨#[10, 0, 0, 1]⟩ = some 0 from shown_map_a] at ha
  refine ha.mono ?_
  clear ha
  rintro e w7 ⟨rfl, rfl⟩
  simp only [Option.getD]
  go_wp2_with fail
  refine (net_draw w.heap.size bn _ 0 (by decide) ⟨#[115, 101, 101, 100]⟩ (by decide) _ _ _ _ _ _ (by exact hN6)).mono ?_
  rintro e w8 ⟨rfl, hN8, hb8, _⟩
  have hB8 := hB6.trans hb8
  clear hN6 hB6 hb8 hN8
  rw [drawWord_seed0]
  go_wp2_with fail
  refine (law_drawn0 _).mono ?_
  rintro e w9 ⟨rfl, hb9⟩
  have hB9 : Below w.heap.size w w9 := hB8.trans (hb9.mono hB8.size)
  clear hb9 hB8
  generalize drawWord ⟨#[115, 101, 101, 100, 47, 48]⟩ = x
  go_wp2
  go_ret
  exact ⟨by simp, hB9⟩
end Go.Proofs.YtjpdagfdcniphaaGreatDoor
