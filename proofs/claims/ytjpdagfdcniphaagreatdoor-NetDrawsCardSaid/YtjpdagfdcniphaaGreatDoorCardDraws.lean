/- NetDraws: for every seed, every list of numbers and every text the law answers true and leaves its arguments as they were; the card of the row, tied.
   Conditions: the listed tables of Go's library read as the program's text lays them (the tie is given). -/
import Derived.Test.YtjpdagfdcniphaaGreatDoorNetH
import Derived.Test.YtjpdagfdcniphaaGreatDoorCardFactsDraws
import Derived.Test.YtjpdagfdcniphaaGreatDoorCardFactsDraws2
import Derived.Test.YtjpdagfdcniphaaGreatDoorCardFactsDraws3
import Derived.OpenShut
set_option linter.unusedVariables false
set_option linter.unusedSimpArgs false
namespace Go.Proofs.YtjpdagfdcniphaaGreatDoor
open Go.ChangeShapes Go.WideShapes Go.ChangeAt Go.RowKit Go.WideMaps Go.WideElems
open Go.ChangeMaps (open_string shut_string)

theorem draws_cells_int : Tryz.prog.cellsOf 3 = 1 := by kernel_rfl

set_option maxRecDepth 100000 in
theorem draws_contract (H : Type) (enc : TypeId × Value → H) (W : World) (base : Nat) (args : Array Value) (ds gs : List (DataW H)) (before : List MemPlace)
    (hval : ∀ (j : Nat) t v, Tryz.f4.params[j]? = some t → args[j]? = some v → Value.okWide Tryz.prog W .any base t v)
    (hW : DataW.Whole enc Tryz.prog Tryz.f4.params.toList Rows.netDrawsSpec.vars false W args.toList ds gs before) :
    Calls Tryz.prog 4 args W fun e W' => ∃ v, e = .returned v ∧ Rows.netDrawsSpec.post enc Tryz.prog Tryz.f4 false true false false W args v W' := by
  have hW' := hW
  obtain ⟨p, q, hA0, hV, rfl, hfz, hnd⟩ := hW
  have hA : DataW.TrodAll enc Tryz.prog W 0 (fun _ => true) true Tryz.f4.params.toList args.toList ds p := hA0
  rw [Tryz.params4] at hA hval
  obtain ⟨v0, v1, v2, d0, d1, d2, p0, p1, p2, rfl, rfl, rfl, h0, h1, h2⟩ := trodAll_three hA
  obtain ⟨rfl, rfl⟩ := trodVars_none hV
  obtain ⟨a0, len, cap, rfl⟩ := okWide_slice Tryz.underlying41 (hval 1 41 v1 rfl rfl)
  have h0k := h0
  have h1k := h1
  have h2k := h2
  obtain ⟨seed, rfl, _, _, hseed⟩ := open_string Tryz.underlying9 (hval 0 9 v0 rfl rfl) h0
  obtain ⟨s, rfl, _, _, hs⟩ := open_string Tryz.underlying9 (hval 2 9 v2 rfl rfl) h2
  obtain ⟨fuel, hf⟩ := h1
  clear hA0
  simp only [List.append_nil] at hW'
  have hlt : ∀ x ∈ p0 ++ (p1 ++ p2), x.block < W.heap.size := fun x hx => by simpa using hW'.lt x (by simpa using hx)
  have walk : Calls Tryz.prog 4 #[.string seed, .slice a0 len cap, .string s] W fun e w' => e = .returned (.bool true) ∧ Below W.heap.size W w' := by
    by_cases hbig : 200 < seed.size ∨ 30 < len ∨ 100 < s.size
    · exact draws_start seed s len a0 cap hbig W
    · rcases open_ints Tryz.underlying41 Tryz.underlying3 draws_cells_int hf with ⟨hcs, hx⟩ | ⟨a, len', cap', zs, hcs, _, hl, hm, hz, hx, hcell, hwz⟩
      · simp [Value.cells] at hcs
        obtain ⟨rfl, rfl, rfl⟩ := hcs
        exact draws_walk seed s 0 0 0 none 0 (by omega) (by omega) (by omega) (fun _ => 0) (by omega) W (by intro j hj; omega)
      · simp [Value.cells] at hcs
        obtain ⟨rfl, rfl, rfl⟩ := hcs
        simp only [if_true] at hz
        obtain ⟨b, off, spot⟩ := a
        by_cases h00 : len = 0
        · subst h00
          exact draws_walk seed s 0 0 0 _ cap (by omega) (by omega) (by omega) (fun _ => 0) (by omega) W (by intro j hj; omega)
        · have hspot : spot = none := by simpa [Addr.add] using World.cell?_spot (hcell 0 (by omega))
          subst hspot
          exact draws_walk seed s b off len _ cap (by omega) (by omega) (by omega) (fun i => zs.getD i 0) (fun _ => rfl) W (fun j hj => by rw [← Addr.add_lit]; have := hcell j (by omega); simpa [List.getD_eq_getElem?_getD, List.getElem?_eq_getElem (show j < zs.length by omega)] using this)
  refine walk.mono fun e W' ⟨he, hb⟩ => ?_
  subst he
  exact ⟨_, rfl, _, _, _, [], _, [], hW', trodAll_mk1 (shut_bool Tryz.underlying4 _), trodAll_mk3 (Below.trod draws_laid_out (by kernel_rfl) (of_decide_eq_true (by kernel_rfl)) h0k hb (fun x hx => hlt x (by simp [hx]))) (Below.trod draws_laid_out (by kernel_rfl) (of_decide_eq_true (by kernel_rfl)) h1k hb (fun x hx => hlt x (by simp [hx]))) (Below.trod draws_laid_out (by kernel_rfl) (of_decide_eq_true (by kernel_rfl)) h2k hb (fun x hx => hlt x (by simp [hx]))), rfl, hb.frame _, fun h => by cases h⟩

set_option maxRecDepth 100000 in
theorem draws_lifted (os : Os) (started : os.Started) (H : Type) (enc : TypeId × Value → H) (F : Stop.Interp) :
    ReturnsInHanded {} Tryz.checked os 4 .any ((OpenSpec.ofChange Rows.netDrawsSpec).preRow enc Tryz.prog Tryz.f4 Rows.netDrawsRow.domain false Rows.netDrawsRow.laid) (((OpenSpec.ofChange Rows.netDrawsSpec).at F).post enc Tryz.prog Tryz.f4 false true false false) := by
  have hrow : (OpenSpec.ofChange Rows.netDrawsSpec).preRow enc Tryz.prog Tryz.f4 Rows.netDrawsRow.domain false Rows.netDrawsRow.laid (drawsWorld os).memory #[.string ⟨#[]⟩, .slice none 0 0, .string ⟨#[]⟩] :=
    OpenSpec.preRow_of_cond 8 (draws_reads os enc) draws_c1 (fun k hk => by cases hk) (draws_c2 os enc) (by rw [MakeChecks.laidMetH_plain _ _ _ draws_c3]; exact laidMet_laidAll _ (draws_l1 os) (draws_l2 os))
  refine returnsInHanded_of_row (C := Tryz.checked) (s := OpenSpec.ofChange Rows.netDrawsSpec) draws_knob started draws_c4 Tryz.func4
    ⟨World.laidAll Tryz.prog os Rows.netDrawsRow.laid, fun _ _ => 0, ⟨#[], #[.string ⟨#[]⟩, .slice none 0 0, .string ⟨#[]⟩], []⟩, World.laidAll_os _ _ _, World.shaped_of_ZipB (draws_w1 os) (draws_w2 os), (Input.okWide_of_okWideB (base := 0) (draws_w3 os)).1, (Input.okWide_of_okWideB (draws_w3 os)).2, hrow, by
      simp only [Assume.holds]
      exact ⟨by simp, by simp, fun _ => Modest.zero, by simp, by simp⟩⟩ ?_
  intro W base args ds gs before hval hW _ _ _ hL _ _
  exact draws_contract H enc W base args ds gs before hval hW

theorem draws_said : Rows.NetDrawsSaid :=
  OpenClaim.holds_of_cond 4 Tryz.f4 rfl rfl rfl rfl rfl rfl rfl ⟨rfl, rfl, rfl, rfl, rfl⟩ rfl rfl rfl rfl rfl draws_c5 Tryz.func4 netDraws_joined
    (of_decide_eq_true draws_c6) draws_c7
    (fun os started H enc _ F => by rw [OpenClaim.pre_eq_preRow]; exact draws_lifted os started H enc F)

theorem draws_plain (f : FuncId) (fn : Func) (hf : Tryz.pinned.checked.prog.funcNamed "towline/towlinelaw21.NetDraws" = some f) (hfn : Tryz.pinned.checked.prog.funcs[f]? = some fn) :
    false = Tryz.pinned.checked.prog.looks [] ∧ ∀ (j : Nat) t, fn.params[j]? = some t → Tryz.pinned.checked.prog.wantsStandIn t = false := by
  obtain rfl : f = 4 := Option.some.inj (draws_c5.symm.trans hf) |>.symm
  obtain rfl : fn = Tryz.f4 := (Option.some.inj (Tryz.func4.symm.trans hfn)).symm
  refine ⟨draws_k4, fun j t ht => ?_⟩
  rw [Tryz.params4] at ht
  have hm : t ∈ [9, 41, 9] := by simpa using Array.mem_of_getElem? ht
  exact (show Tryz.prog.wantsStandIn t = false by simpa using List.all_eq_true.1 draws_k5 t hm)

/-- The claim. -/
theorem netDraws_card : Rows.NetDrawsCardSaid :=
  Claim7.holds_tied_plain_at .later [] _ _ _ _ draws_said (fun _ h => by cases h) draws_k1 (fun _ h => by cases h) netDraws_row_tie rfl ⟨rfl, rfl⟩ draws_k2 rfl draws_plain draws_k3
end Go.Proofs.YtjpdagfdcniphaaGreatDoor
