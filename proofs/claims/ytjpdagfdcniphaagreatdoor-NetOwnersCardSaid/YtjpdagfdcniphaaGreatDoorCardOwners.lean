/- NetOwners: for every list of pairs of bytes the law answers true and leaves its argument as it was; the card of the row, tied.
   Conditions: the listed tables of Go's library read as the program's text lays them (the tie is given). -/
import Derived.Test.YtjpdagfdcniphaaGreatDoorNetF
import Derived.Test.YtjpdagfdcniphaaGreatDoorCardFactsOwners
import Derived.Test.YtjpdagfdcniphaaGreatDoorCardFactsOwners2
import Derived.Test.YtjpdagfdcniphaaGreatDoorCardFactsOwners3
import Derived.OpenShut
import Derived.Deep.Slices
import Derived.Deep.DeepHandedRow
import Derived.Lay
set_option linter.unusedVariables false
set_option linter.unusedSimpArgs false
namespace Go.Proofs.YtjpdagfdcniphaaGreatDoor
open Go.ChangeShapes Go.WideShapes Go.ChangeAt Go.RowKit

theorem cells_u8 : Tryz.prog.cellsOf 5 = 1 := by kernel_rfl
theorem cells_arr2 : Tryz.prog.cellsOf 27 = 2 := by kernel_rfl
theorem under_arr2 : Tryz.prog.underlying 27 = some (.array 2 5) := Tryz.underlying27

theorem u8_range {x : Int} (h : (Lit.int .u8 x).wf = true) : ∃ n : Nat, x = (n : Int) ∧ n < 256 := by
  have : 0 ≤ x ∧ x ≤ 255 := by simpa [Lit.wf, IntKind.min, IntKind.max, IntKind.signed, IntKind.bits] using h
  exact ⟨x.toNat, by omega, by omega⟩

section
variable {H : Type} {enc : TypeId × Value → H} {W : World} {base : Nat} {spare : Nat → Bool} {held : Bool}
set_option maxRecDepth 100000 in
/-- A pair of bytes in memory. -/
theorem pair_of {n : Nat} {a : Addr} {cs : List Value} {x : DataW H × List MemPlace} (h1 : W.cells? base a 2 = some cs) (h2 : DataW.trod enc Tryz.prog W base spare held n 27 cs = some x) :
    ∃ p : Nat × Nat, p.1 < 256 ∧ p.2 < 256 ∧ W.cell? a = some (.int .u8 (p.1 : Int)) ∧ W.cell? (a.add 1) = some (.int .u8 (p.2 : Int)) := by
  obtain ⟨_, hlen, hcell⟩ := World.cells?_some h1
  obtain ⟨xs, k, hk, hxy, _, hxl, hf⟩ := DataW.trod_array under_arr2 h2
  match xs, hxl, cs, hlen with
  | [y0, y1], _, [v0, v1], _ =>
    have g0 := hf 0 (by omega)
    have g1 := hf 1 (by omega)
    simp [cells_u8] at g0 g1
    obtain ⟨n0, e0, _, w0⟩ := DataW.trod_int Tryz.underlying5 g0
    obtain ⟨n1, e1, _, w1⟩ := DataW.trod_int Tryz.underlying5 g1
    obtain ⟨m0, rfl, l0⟩ := u8_range w0
    obtain ⟨m1, rfl, l1⟩ := u8_range w1
    have c0 := hcell 0 (by omega)
    have c1 := hcell 1 (by omega)
    simp at e0 e1
    subst e0 e1
    refine ⟨(m0, m1), l0, l1, ?_, ?_⟩
    · simpa [Addr.add] using c0
    · simpa using c1
end

set_option maxRecDepth 100000 in
theorem owners_contract (H : Type) (enc : TypeId × Value → H) (W : World) (base : Nat) (args : Array Value) (ds gs : List (DataW H)) (before : List MemPlace)
    (hval : ∀ (j : Nat) t v, Tryz.f3.params[j]? = some t → args[j]? = some v → Value.okWide Tryz.prog W .any base t v)
    (hW : DataW.Whole enc Tryz.prog Tryz.f3.params.toList Rows.netOwnersSpec.vars false W args.toList ds gs before) :
    Calls Tryz.prog 3 args W fun e W' => ∃ v, e = .returned v ∧ Rows.netOwnersSpec.post enc Tryz.prog Tryz.f3 false true false false W args v W' := by
  have hW' := hW
  obtain ⟨p, q, hA0, hV, rfl, hfz, hnd⟩ := hW
  have hA : DataW.TrodAll enc Tryz.prog W 0 (fun _ => true) true Tryz.f3.params.toList args.toList ds p := hA0
  rw [Tryz.params3] at hA hval
  obtain ⟨v0, d0, rfl, rfl, h0⟩ := trodAll_one hA
  obtain ⟨rfl, rfl⟩ := trodVars_none hV
  obtain ⟨a0, len, cap, rfl⟩ := okWide_slice Tryz.underlying22 (hval 0 22 v0 rfl rfl)
  have h0k := h0
  obtain ⟨fuel, hf⟩ := h0
  clear hA0
  simp only [List.append_nil] at hW'
  have hlt : ∀ x ∈ p, x.block < W.heap.size := fun x hx => by simpa using hW'.lt x hx
  have walk : Calls Tryz.prog 3 #[.slice a0 len cap] W fun e w' => e = .returned (.bool true) ∧ Below W.heap.size W w' := by
    by_cases hbig : 20 < len
    · exact owners_start len a0 cap hbig W
    · rcases Go.Deep.open_slice Tryz.underlying22 hf with ⟨hcs, _⟩ | ⟨a, len', cap', m, n, D, Pl, hcs, _, hl, hm, hmm, hx, hel⟩
      · simp [Value.cells] at hcs
        obtain ⟨rfl, rfl, rfl⟩ := hcs
        exact owners_walk 0 0 0 none 0 (by omega) (fun _ => 0) (fun _ => 0) (by omega) W (by intro j hj; omega) (by intro j hj; omega)
      · simp [Value.cells] at hcs
        obtain ⟨rfl, rfl, rfl⟩ := hcs
        have hlm : len ≤ m := by rw [hmm]; simpa using hl
        have each : ∀ i, i < len → ∃ p : Nat × Nat, p.1 < 256 ∧ p.2 < 256 ∧ W.cell? (a.add (i * 2)) = some (.int .u8 (p.1 : Int)) ∧ W.cell? ((a.add (i * 2)).add 1) = some (.int .u8 (p.2 : Int)) := by
          intro i hi
          obtain ⟨cs', h1, h2⟩ := hel i (by omega)
          rw [cells_arr2] at h1
          exact pair_of h1 h2
        obtain ⟨b, off, spot⟩ := a
        by_cases h00 : len = 0
        · subst h00
          exact owners_walk 0 0 0 _ cap (by omega) (fun _ => 0) (fun _ => 0) (by omega) W (by intro j hj; omega) (by intro j hj; omega)
        · obtain ⟨q, hq⟩ := Go.Deep.choose_lt each
          have hspot : spot = none := by simpa [Addr.add] using World.cell?_spot (hq 0 (by omega)).2.2.1
          subst hspot
          exact owners_walk b off len _ cap (by omega) (fun i => (q i).1) (fun i => (q i).2) (fun _ => rfl) W (fun j hj => ⟨(hq j hj).1, (hq j hj).2.1⟩) (fun j hj => ⟨by rw [← Addr.add_lit]; exact (hq j hj).2.2.1, by rw [← Addr.add_lit, ← Addr.add_lit]; exact (hq j hj).2.2.2⟩)
  refine walk.mono fun e W' ⟨he, hb⟩ => ?_
  subst he
  exact ⟨_, rfl, _, _, _, [], p, [], hW', trodAll_mk1 (shut_bool Tryz.underlying4 _), trodAll_mk1 (Below.trod laid_out (by kernel_rfl) (of_decide_eq_true (by kernel_rfl)) h0k hb hlt), rfl, hb.frame _, fun h => by cases h⟩

set_option maxRecDepth 100000 in
theorem owners_lifted (os : Os) (started : os.Started) (H : Type) (enc : TypeId × Value → H) (F : Stop.Interp) :
    ReturnsInHanded {} Tryz.checked os 3 .any ((OpenSpec.ofChange Rows.netOwnersSpec).preRow enc Tryz.prog Tryz.f3 Rows.netOwnersRow.domain false Rows.netOwnersRow.laid) (((OpenSpec.ofChange Rows.netOwnersSpec).at F).post enc Tryz.prog Tryz.f3 false true false false) := by
  have hrow : (OpenSpec.ofChange Rows.netOwnersSpec).preRow enc Tryz.prog Tryz.f3 Rows.netOwnersRow.domain false Rows.netOwnersRow.laid (ownersWorld os).memory #[.slice none 0 0] :=
    OpenSpec.preRow_of_cond 8 (owners_reads os enc) owners_c1 (fun k hk => by cases hk) (owners_c2 os enc) (by rw [MakeChecks.laidMetH_plain _ _ _ owners_c3]; exact laidMet_laidAll _ (owners_l1 os) (owners_l2 os))
  refine returnsInHanded_of_row (C := Tryz.checked) (s := OpenSpec.ofChange Rows.netOwnersSpec) own_knob started owners_c4 Tryz.func3
    ⟨World.laidAll Tryz.prog os Rows.netOwnersRow.laid, fun _ _ => 0, ⟨#[], #[.slice none 0 0], []⟩, World.laidAll_os _ _ _, World.shaped_of_ZipB (owners_w1 os) (owners_w2 os), (Input.okWide_of_okWideB (base := 0) (owners_w3 os)).1, (Input.okWide_of_okWideB (owners_w3 os)).2, hrow, by
      simp only [Assume.holds]
      exact ⟨by simp, by simp, fun _ => Modest.zero, by simp, by simp⟩⟩ ?_
  intro W base args ds gs before hval hW _ _ _ hL _ _
  exact owners_contract H enc W base args ds gs before hval hW

theorem owners_said : Rows.NetOwnersSaid :=
  OpenClaim.holds_of_cond 3 Tryz.f3 rfl rfl rfl rfl rfl rfl rfl ⟨rfl, rfl, rfl, rfl, rfl⟩ rfl rfl rfl rfl rfl owners_c5 Tryz.func3 netOwners_joined
    (of_decide_eq_true owners_c6) owners_c7
    (fun os started H enc _ F => by rw [OpenClaim.pre_eq_preRow]; exact owners_lifted os started H enc F)

theorem owners_plain (f : FuncId) (fn : Func) (hf : Tryz.pinned.checked.prog.funcNamed "towline/towlinelaw21.NetOwners" = some f) (hfn : Tryz.pinned.checked.prog.funcs[f]? = some fn) :
    false = Tryz.pinned.checked.prog.looks [] ∧ ∀ (j : Nat) t, fn.params[j]? = some t → Tryz.pinned.checked.prog.wantsStandIn t = false := by
  obtain rfl : f = 3 := Option.some.inj (owners_c5.symm.trans hf) |>.symm
  obtain rfl : fn = Tryz.f3 := (Option.some.inj (Tryz.func3.symm.trans hfn)).symm
  refine ⟨owners_k4, fun j t ht => ?_⟩
  rw [Tryz.params3] at ht
  obtain rfl : t = 22 := by simpa using Array.mem_of_getElem? ht
  exact owners_k5

/-- The claim. -/
theorem netOwners_card : Rows.NetOwnersCardSaid :=
  Claim7.holds_tied_plain_at .later [] _ _ _ _ owners_said (fun _ h => by cases h) owners_k1 (fun _ h => by cases h) netOwners_row_tie rfl ⟨rfl, rfl⟩ owners_k2 rfl owners_plain owners_k3
end Go.Proofs.YtjpdagfdcniphaaGreatDoor
