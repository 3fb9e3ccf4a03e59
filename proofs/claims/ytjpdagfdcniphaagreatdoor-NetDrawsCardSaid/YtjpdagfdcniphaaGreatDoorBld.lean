/- strings.Builder at the head of a block of whatever type: its methods, walked. -/
import Derived.Test.YtjpdagfdcniphaaGreatDoorKeep
import Derived.Lib.UnsafeStr
import Derived.Lib.Builder
import Derived.Shelf.RegionOpenPlain
import Derived.Deep.DeepCutAuto
set_option linter.unusedVariables false
set_option linter.unusedSimpArgs false
namespace Go.Proofs.YtjpdagfdcniphaaGreatDoor
open Go.RowKit

/-- Block b, a call's own (from B on), of type T, is a Builder that holds the bytes l. -/
def Bld (T : TypeId) (B b : Nat) (l : List Int) (w : World) : Prop :=
  B ≤ b ∧ ∃ p v, (p = .pointer none ∨ p = .pointer (some ⟨b, 0, none⟩)) ∧ ArrAt w b T [p, v] ∧ w.ownsRow B 5 1 v l.length (l.map (.int .u8)) ∧ v.ownBlock ≠ some b ∧ (l = [] → v = .slice none 0 0) ∧ AllBytes l

/-- A type that lies as a Builder does. -/
def AsBuilder (T : TypeId) : Prop := liesAt Tryz.prog (Tryz.prog).depth T (2 / (Tryz.prog).cellsOf T) 0 107 1 = true ∧ T ≠ 5
theorem own_other {T : TypeId} {B b : Nat} {w : World} {v : Value} {n : Nat} {xs cs : List Value} (hT : T ≠ 5) (hA : ArrAt w b T cs) (h : w.ownsRow B 5 1 v n xs) : v.ownBlock ≠ some b := by
  rcases h.2 with ⟨rfl, _⟩ | ⟨g, cap, cur, rfl, _, a2, _⟩
  · simp [Value.ownBlock]
  · intro e
    simp [Value.ownBlock] at e
    subst e
    have a2' := a2
    unfold ArrAt at hA
    rw [hA] at a2'
    simp at a2'
    exact hT a2'.2

theorem Bld.new (T : TypeId) (B : Nat) (w : World) (hB : B ≤ w.heap.size) : Bld T B w.heap.size [] (w.alloc (.cells #[.pointer none, .slice none 0 0] T)) :=
  ⟨hB, .pointer none, .slice none 0 0, .inl rfl, ArrAt.new w [.pointer none, .slice none 0 0] T, ⟨rfl, .inl ⟨rfl, rfl⟩⟩, by simp [Value.ownBlock], fun _ => rfl, by intro x hx; cases hx⟩
theorem Bld.lt {T : TypeId} {B b : Nat} {l : List Int} {w : World} (h : Bld T B b l w) : b < w.heap.size := by obtain ⟨_, _, _, _, h, _⟩ := h; exact h.lt
theorem Bld.keeps {T : TypeId} {B b : Nat} {l : List Int} {w w' : World} {M : Nat → Prop} (h : Bld T B b l w) (hk : Keeps M w.heap.size w w') (hM : ∀ k, B ≤ k → ¬ M k) : Bld T B b l w' := by
  obtain ⟨h0, p, v, h1, h2, h3, h4, h5, h6⟩ := h
  exact ⟨h0, p, v, h1, h2.keeps hk h2.lt (hM b h0), own_keeps h3 hk (fun k hv => ⟨own_lt h3 k hv, hM k (own_ge h3 k hv)⟩), h4, h5, h6⟩
theorem Bld.drewN {T : TypeId} {B b : Nat} {l : List Int} {w : World} (h : Bld T B b l w) (n : Nat) : Bld T B b l (w.drewN n) := h
theorem Bld.drew {T : TypeId} {B b : Nat} {l : List Int} {w : World} (h : Bld T B b l w) : Bld T B b l w.drew := h
theorem Bld.below {T : TypeId} {B b : Nat} {l : List Int} {w w' : World} (h : Bld T B b l w) (hk : Below w.heap.size w w') : Bld T B b l w' :=
  h.keeps (M := fun _ => False) (Keeps.of_below hk) (fun _ _ h => h)

set_option maxRecDepth 100000 in
set_option maxHeartbeats 1000000 in
theorem b_check (T : TypeId) (hT : AsBuilder T) (b : Nat) (p v : Value) (w : World) (hp : p = .pointer none ∨ p = .pointer (some ⟨b, 0, none⟩)) (hA : ArrAt w b T [p, v]) :
    Calls Tryz.prog 137 #[.pointer (some ⟨b, 0, none⟩)] w fun e w' => e = .returned (.tuple #[]) ∧ ArrAt w' b T [.pointer (some ⟨b, 0, none⟩), v] ∧ Keeps (· = b) w.heap.size w w' ∧ w'.heap.size = w.heap.size := by
  have hf := hA.frozen 0
  have hsh : w.shape? b = some (T, 2) := by unfold World.shape?; rw [hA]; rfl
  obtain ⟨j, hj, hjs⟩ : ∃ j, (Tryz.prog).info? 107 = some j ∧ j.size = 2 := ⟨_, rfl, rfl⟩
  rcases hp with rfl | rfl
  · have c0 : w.cell? ⟨b, 0, none⟩ = some (.pointer none) := hA.cell 0
    go_enter Tryz.func137, Tryz.ntmps137
    go_wp2
    rw [Lib.run_to_unsafe w ⟨b, 0, none⟩ Tryz.underlying105 Tryz.underlying334 hj (by rw [hjs]; decide) hsh (Nat.zero_lt_succ 1)]
    simp only [Result.andThen]
    rw [Oper.upon_value]
    go_wp2
    rw [run_callFunc_extern Tryz.func213 (by kernel_rfl) (by kernel_rfl) (by kernel_rfl) (e := Extern.AbiNoEscape.same) (by kernel_rfl)]
    rw [Lib.run_noEscape]
    simp only [Result.andThen]
    rw [Oper.upon_value]
    go_wp2
    rw [Lib.run_from_unsafe w ⟨b, 0, none⟩ Tryz.underlying334 Tryz.underlying105 hj hsh hT.1]
    simp only [Result.andThen]
    rw [Oper.upon_value]
    go_wp2
    go_end0
    exact ⟨rfl, hA.set 0 _, Keeps.setCell (M := (· = b)) (Keeps.refl _ _ w) (p := ⟨b, 0, none⟩) (.inl rfl) _, by simp [World.setCell]⟩
  · have c0 : w.cell? ⟨b, 0, none⟩ = some (.pointer (some ⟨b, 0, none⟩)) := hA.cell 0
    go_enter Tryz.func137, Tryz.ntmps137
    go_wp2
    rw [Lib.run_neq_ptr_same w _ Tryz.underlying105 hj]
    go_wp2
    go_end0
    exact ⟨rfl, hA, Keeps.refl _ _ _, rfl⟩

theorem Keeps.freeze {M : Nat → Prop} {B : Nat} {a w : World} (h : Keeps M B a w) {p : Addr} (hp : M p.block ∨ B ≤ p.block) (n : Nat) : Keeps M B a (w.freeze p n) := by
  refine h.trans ?_
  unfold World.freeze
  split
  · exact Keeps.refl _ _ w
  · exact ⟨rfl, rfl, rfl, by simp, fun k hk hm => by
      simp only [Array.getElem?_modify]
      rw [if_neg (by rintro rfl; rcases hp with hp | hp; exact hm hp; omega)]⟩
theorem strCells_bytesOf (s : ByteArray) : Lib.strCells s = (bytesOf s).map (.int .u8) := by simp [Lib.strCells, bytesOf, Function.comp_def]

theorem Bld.put {T : TypeId} {B b : Nat} {l l' : List Int} {w w1 w2 : World} {v v' : Value} (hB : B ≤ b) (hBw : B ≤ w.heap.size) (hA : ArrAt w1 b T [.pointer (some ⟨b, 0, none⟩), v]) (hs : w1.heap.size = w.heap.size) (hk : Keeps (· = b) w.heap.size w w1)
    (hv : w1.ownsRow B 5 1 v l.length (l.map (.int .u8))) (hne : v.ownBlock ≠ some b) (hg : w1.grownBy w2 v.ownBlock) (hown : w2.ownsRow B 5 1 v' l'.length (l'.map (.int .u8))) (hnil : l' = [] → v' = .slice none 0 0) (hal : AllBytes l')
    (hne' : v'.ownBlock ≠ some b) :
    Bld T B b l' (w2.setCell ⟨b, 1, none⟩ v') ∧ Below B w (w2.setCell ⟨b, 1, none⟩ v') := by
  have h2 : ArrAt w2 b T [.pointer (some ⟨b, 0, none⟩), v] := by
    unfold ArrAt
    rw [hg.block b hA.lt (fun e => hne e.symm)]
    exact hA
  refine ⟨⟨hB, _, _, .inr rfl, h2.set 1 v', ?_, hne', hnil, hal⟩, ?_⟩
  · refine own_keeps (M := (· = b)) hown (Keeps.setCell (M := (· = b)) (Keeps.refl _ w2.heap.size w2) (p := ⟨b, 1, none⟩) (.inl rfl) _) ?_
    intro k hk
    exact ⟨own_lt hown k hk, fun e => hne' (e ▸ hk)⟩
  · refine ((hk.fresh (by omega) hB).trans ⟨hg.os, hg.tape, hg.output, hg.size, fun k hk => hg.block k (by omega) (fun e => ?_)⟩).setCell (p := ⟨b, 1, none⟩) hB _
    have := own_ge hv k e.symm
    omega

set_option maxRecDepth 100000 in
set_option maxHeartbeats 1000000 in
theorem b_writeString (T : TypeId) (hT : AsBuilder T) (B b : Nat) (l : List Int) (s : ByteArray) (w : World) (h : Bld T B b l w) (hl : l.length + s.size ≤ 140737488355328) (hBw : B ≤ w.heap.size) :
    Calls Tryz.prog 80 #[.pointer (some ⟨b, 0, none⟩), .string s] w fun e w' => e = .returned (.tuple #[.int .i64 s.size, .nilIface]) ∧ Bld T B b (l ++ bytesOf s) w' ∧ Below B w w' := by
  obtain ⟨i0, hi, hz0, hz1, hz2⟩ := info_parts info_u8
  obtain ⟨hB, p, v, hp, hA, hown, hne, hnil, hal⟩ := h
  have HNIL := Lib.hid hnil
  clear hnil
  go_enter Tryz.func80, Tryz.ntmps80
  go_wp2_with ((go_at_call 137; refine (b_check T hT b p v _ hp hA).mono ?_))
  rintro e w1 ⟨rfl, hA1, hk1, hs1⟩
  have hown1 := own_keeps hown hk1 (fun k hv => ⟨own_lt hown k hv, fun e => hne (e ▸ hv)⟩)
  have c1 : w1.cell? ⟨b, 1, none⟩ = some v := hA1.cell 1
  go_wp2_with (at_builtin; refine Lib.wpList_append_own_string _ rfl _ _ 28 9 rfl B 5 i0 Tryz.underlying28 Tryz.underlying9 hi hz0 hz1 hz2 _ _ _ rfl hown1 s rfl (by unfold maxLen; omega) (by omega) (by omega) ?_)
  intro v' w2 hown' hgrow hnn
  have h2 : ArrAt w2 b T [.pointer (some ⟨b, 0, none⟩), v] := by
    unfold ArrAt
    rw [hgrow.block b hA1.lt (fun e => hne e.symm)]
    exact hA1
  have d1 : w2.cell? ⟨b, 1, none⟩ = some v := h2.cell 1
  have f1 := h2.frozen 1
  obtain ⟨ao, n', cap, rfl⟩ : ∃ ao n' cap, v' = .slice ao n' cap := by
    rcases hown'.2 with ⟨hv, _⟩ | ⟨g, cap, cur, hv, _⟩
    · exact ⟨_, _, _, hv⟩
    · exact ⟨_, _, _, hv⟩
  have HNN := Lib.hid hnn
  clear hnn
  go_wp2
  go_ret2
  have hl2 : (l ++ bytesOf s).length = l.length + s.size := by rw [List.length_append, bytesOf_length]
  have hown2 : w2.ownsRow B 5 1 (.slice ao n' cap) (l ++ bytesOf s).length ((l ++ bytesOf s).map (.int .u8)) := by
    rw [hl2, List.map_append, ← strCells_bytesOf]; exact hown'
  refine ⟨rfl, Bld.put (l := l) hB hBw hA1 hs1 hk1 hown1 hne hgrow hown2 ?_ ?_ (own_other hT.2 h2 hown')⟩
  · intro e
    obtain ⟨e1, e2⟩ := List.append_eq_nil_iff.1 e
    refine HNN.out.2 ⟨HNIL.out e1, ?_⟩
    rw [← strOfNums_bytesOf s, e2]; rfl
  · intro x hx
    rcases List.mem_append.1 hx with hx | hx
    · exact hal x hx
    · exact bytesOf_allBytes s x hx

set_option maxRecDepth 100000 in
set_option maxHeartbeats 1000000 in
theorem b_writeByte (T : TypeId) (hT : AsBuilder T) (B b : Nat) (l : List Int) (c : Int) (hc0 : 0 ≤ c) (hc1 : c < 256) (w : World) (h : Bld T B b l w) (hl : l.length + 1 ≤ 140737488355328) (hBw : B ≤ w.heap.size) :
    Calls Tryz.prog 139 #[.pointer (some ⟨b, 0, none⟩), .int .u8 c] w fun e w' => e = .returned .nilIface ∧ Bld T B b (l ++ [c]) w' ∧ Below B w w' := by
  obtain ⟨i0, hi, hz0, hz1, hz2⟩ := info_parts info_u8
  obtain ⟨hB, p, v, hp, hA, hown, hne, hnil, hal⟩ := h
  clear hnil
  go_enter Tryz.func139, Tryz.ntmps139
  go_wp2_with ((go_at_call 137; refine (b_check T hT b p v _ hp hA).mono ?_))
  rintro e w1 ⟨rfl, hA1, hk1, hs1⟩
  have hown1 := own_keeps hown hk1 (fun k hv => ⟨own_lt hown k hv, fun e => hne (e ▸ hv)⟩)
  have c1 : w1.cell? ⟨b, 1, none⟩ = some v := hA1.cell 1
  have hlt1 := hA1.lt
  have HS1 := Lib.hid hs1
  have hBw1 : B ≤ w1.heap.size := by omega
  clear hs1
  go_wp2_with (refine wpList_append_keep rfl _ _ _ rfl B 5 i0 _ 1 1 Tryz.underlying28 hi hz0 hz1 hz2 rfl (by decide) v l.length _ rfl (hown1.alloc _) ⟨w1.heap.size, 0, none⟩ 1 1 [_] rfl rfl (World.news_of_block (heap_alloc_new _ _)) (by simp [Value.oneCell']) (by omega) (by unfold maxLen; omega) (by omega) (by first | omega | (simp; omega)) ?_)
  intro g' cap' w2 hA2
  have h2 : ArrAt w2 b T [.pointer (some ⟨b, 0, none⟩), v] := by
    unfold ArrAt
    rw [hA2.grown.block b (by simp; omega) (fun e => hne e.symm)]
    exact hA1.alloc _
  have hs1 := HS1.out
  have d1 : w2.cell? ⟨b, 1, none⟩ = some v := h2.cell 1
  have f1 := h2.frozen 1
  have hown2 := hA2.own
  have hgr := hA2.grown
  clear hA2
  go_wp2
  go_ret
  have hg : w1.grownBy w2 v.ownBlock := ⟨hgr.os, hgr.tape, hgr.output, by have := hgr.size; simp at this; omega, fun k hk hr => (hgr.block k (by simp; omega) hr).trans (Below.heap_alloc w1 _ k hk)⟩
  refine ⟨rfl, Bld.put (l := l) hB hBw hA1 hs1 hk1 hown1 hne hg ?_ (by simp) ?_ (own_other hT.2 h2 hown2)⟩
  · rw [List.map_append, List.length_append]; exact hown2
  · intro x hx
    rcases List.mem_append.1 hx with hx | hx
    · exact hal x hx
    · rw [List.mem_singleton] at hx; subst hx; exact ⟨hc0, hc1⟩

theorem bld_cells {T : TypeId} {B b : Nat} {l : List Int} {w : World} (h : Bld T B b l w) : ∃ ao cap, w.cell? ⟨b, 1, none⟩ = some (.slice ao l.length cap) ∧ w.ownsRow B 5 1 (.slice ao l.length cap) l.length (l.map (.int .u8)) ∧ (l = [] → ao = none ∧ cap = 0) ∧ ArrAt w b T [w.cell? ⟨b, 0, none⟩ |>.getD .nilIface, .slice ao l.length cap] ∧ (Value.slice ao l.length cap).ownBlock ≠ some b := by
  obtain ⟨hB, p, v, hp, hA, hown, hne, hnil, hal⟩ := h
  have c0 := hA.cell 0
  have c1 := hA.cell 1
  rcases hown.2 with ⟨rfl, h0⟩ | ⟨g, cap, cur, rfl, _⟩
  · rw [h0] at *
    exact ⟨none, 0, c1, hown, fun _ => ⟨rfl, rfl⟩, by rw [c0]; exact hA, hne⟩
  · refine ⟨_, cap, c1, hown, fun e => ?_, by rw [c0]; exact hA, hne⟩
    have := hnil e
    simp at this

set_option maxRecDepth 100000 in
theorem b_len_cell (b n cap : Nat) (ao : Option Addr) (w : World) (c1 : w.cell? ⟨b, 1, none⟩ = some (.slice ao n cap)) :
    Calls Tryz.prog 84 #[.pointer (some ⟨b, 0, none⟩)] w fun e w' => e = .returned (.int .i64 n) ∧ w' = w := by
  go_enter Tryz.func84, Tryz.ntmps84
  go_wp2
  go_ret
  exact ⟨rfl, rfl⟩

/-- Block k is the buffer of the Builder in block b. -/
def BufOf (w : World) (b k : Nat) : Prop := ∃ n cap, w.cell? ⟨b, 1, none⟩ = some (.slice (some ⟨k, 0, none⟩) n cap)
theorem Bld.buf {T : TypeId} {B b : Nat} {l : List Int} {w : World} (h : Bld T B b l w) {k : Nat} (hk : BufOf w b k) : B ≤ k ∧ k ≠ b ∧ k < w.heap.size := by
  obtain ⟨ao, cap, c1, hown, hnil, hA, hne⟩ := bld_cells h
  obtain ⟨n, cap', c⟩ := hk
  rw [c1] at c
  simp at c
  obtain ⟨rfl, rfl, rfl⟩ := c
  exact ⟨own_ge hown k rfl, fun e => hne (by rw [← e]; rfl), own_lt hown k rfl⟩

set_option maxRecDepth 100000 in
theorem b_len (T : TypeId) (B b : Nat) (l : List Int) (w : World) (h : Bld T B b l w) :
    Calls Tryz.prog 84 #[.pointer (some ⟨b, 0, none⟩)] w fun e w' => e = .returned (.int .i64 l.length) ∧ w' = w := by
  obtain ⟨ao, cap, c1, _⟩ := bld_cells h
  go_enter Tryz.func84, Tryz.ntmps84
  go_wp2
  go_ret
  exact ⟨rfl, rfl⟩

theorem Bld.below_of_buf {T : TypeId} {B b : Nat} {l : List Int} {w w' : World} (h : Bld T B b l w) (hk : Keeps (BufOf w b) w.heap.size w w') {B' : Nat} (hB : B' ≤ B) : Below B' w w' :=
  (hk.mono (B' := B') (M' := fun _ => False) (by have := h.lt; have := h.1; omega) (fun k hk hm => by have := (h.buf hm).1; omega)).below (fun _ _ h => h)

set_option maxRecDepth 100000 in
set_option maxHeartbeats 1000000 in
theorem b_string (T : TypeId) (B b : Nat) (l : List Int) (w : World) (h : Bld T B b l w) (hBw : B ≤ w.heap.size) :
    Calls Tryz.prog 82 #[.pointer (some ⟨b, 0, none⟩)] w fun e w' => e = .returned (.string (strOfNums l)) ∧ Keeps (BufOf w b) w.heap.size w w' := by
  obtain ⟨ao, cap, c1, hown, hnil, hA, hne⟩ := bld_cells h
  obtain ⟨hB, _, _, _, _, _, _, _, hal⟩ := h
  have c1' : w.drew.cell? ⟨b, 1, none⟩ = some (.slice ao l.length cap) := c1
  by_cases h0 : l = []
  · subst h0
    obtain ⟨rfl, rfl⟩ := hnil rfl
    have hUS := Lib.run_unsafeString_none (P := Tryz.prog) (w := w.drew) 248 3 9 none
    have hSD : (Builtin.unsafeSliceData_ #[28] 248 #[.slice none 0 0]).run Tryz.prog w.drew = .ok (.pointer none) w.drew := rfl
    clear hA hne
    have mixed : (Tryz.prog).follows .mixedOrders = true := by kernel_rfl
    go_enter Tryz.func82, Tryz.ntmps82
    go_wp2
    go_region_o
    all_goals (go_wp2; go_ret; exact ⟨rfl, Keeps.drew (Keeps.refl _ _ w)⟩)
  · obtain ⟨g, rfl, hbg, cur, hg, hnc, hcm, hcs⟩ : ∃ g, ao = some ⟨g, 0, none⟩ ∧ B ≤ g ∧ ∃ cur, w.heap[g]? = some (.cells cur 5 (0, 0)) ∧ l.length ≤ cap ∧ cap ≤ maxLen ∧ cur.size = cap * 1 := by
      rcases hown.2 with ⟨hv, hz⟩ | ⟨g, cap', cur, hv, a1, a2, a3, a4, a5, a6⟩
      · exact absurd (List.eq_nil_of_length_eq_zero hz) h0
      · simp at hv
        obtain ⟨rfl, rfl⟩ := hv
        exact ⟨g, rfl, a1, cur, a2, a3, a4, a5⟩
    have hl0 : l.length ≠ 0 := by simpa using h0
    have hB1 := Lib.hid c1
    have hSD : (Builtin.unsafeSliceData_ #[28] 248 #[.slice (some ⟨g, 0, none⟩) l.length cap]).run Tryz.prog w.drew = .ok (.pointer (some ⟨g, 0, none⟩)) w.drew :=
      Lib.run_unsafeSliceData_row w.drew _ _ _ _ _ (by omega)
    have hUS : (Builtin.unsafeString_ #[248, 3] 9 #[.pointer (some ⟨g, 0, none⟩), .int .i64 l.length]).run Tryz.prog w.drew = .ok (.string (strOfNums l)) (w.drew.freeze ⟨g, 0, none⟩ l.length) := by
      have := Lib.run_unsafeString_row (P := Tryz.prog) (w := w.drew) 248 3 9 5 Tryz.underlying248 (by kernel_rfl) g cur.size (by have hg' : w.drew.heap[g]? = some (.cells cur 5 (0, 0)) := hg; simp [World.shape?, hg']) (l.map fun n => UInt8.ofNat n.toNat) (by simpa using h0) (by simp; omega) (by simp; unfold maxLen at hcm; omega) ?_
      · simpa [strOfNums] using this
      · intro j x hx
        rw [List.getElem?_map, Option.map_eq_some_iff] at hx
        obtain ⟨y, hy, rfl⟩ := hx
        have hb := hal y (List.mem_of_getElem? hy)
        rw [Addr.add_lit, Nat.zero_add]
        refine (hown.cellAt j (by have := (List.getElem?_eq_some_iff.1 hy).1; omega)).trans ?_
        rw [List.getElem?_map, hy]
        obtain ⟨b0, b1⟩ := hb
        have : (UInt8.ofNat y.toNat).toNat = y.toNat := by simp; omega
        rw [this]
        simp
        omega
    clear hA hne
    have mixed : (Tryz.prog).follows .mixedOrders = true := by kernel_rfl
    go_enter Tryz.func82, Tryz.ntmps82
    go_wp2
    go_region_o
    all_goals (go_wp2; go_ret; refine ⟨rfl, Keeps.freeze (Keeps.drew (Keeps.refl _ _ w)) (p := ⟨g, 0, none⟩) (.inl ⟨_, _, hB1.out⟩) _⟩)
end Go.Proofs.YtjpdagfdcniphaaGreatDoor
