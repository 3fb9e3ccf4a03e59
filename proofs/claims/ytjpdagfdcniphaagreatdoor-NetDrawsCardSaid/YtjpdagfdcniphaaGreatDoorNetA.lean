/- net: New, Owner, End, Add -/
import Derived.Test.YtjpdagfdcniphaaGreatDoorSMap
import Derived.Test.YtjpdagfdcniphaaGreatDoorSockA
set_option linter.unusedVariables false
set_option linter.unusedSimpArgs false
namespace Go.Proofs.YtjpdagfdcniphaaGreatDoor
open Go.RowKit Go.Maps

/-- Block bn, a call's own (from B on), is a Net: its seed, how often it drew, its time, its ends, whose the addresses are, its wire (an object), its last number. -/
def NetAt (B bn : Nat) (seed : ByteArray) (drawn now last : Int) (es : List Value) (k : Nat) (m : ByteArray → Option Int) (wire : Obj) (w : World) : Prop :=
  B ≤ bn ∧ ∃ ev mo mw, ArrAt w bn 64 [.string seed, .int .i64 drawn, .int .i64 now, ev, .map (some mo), .map (some mw), .int .i64 last] ∧ B ≤ mo ∧ B ≤ mw ∧ SMap w mo k m ∧ w.heap[mw]? = some wire ∧ mo ≠ mw ∧ bn ≠ mw ∧
    w.ownsRow B 38 1 ev es.length es ∧ ev.ownBlock ≠ some mw

theorem NetAt.below {B bn k : Nat} {seed : ByteArray} {drawn now last : Int} {es : List Value} {m : ByteArray → Option Int} {wire : Obj} {w w' : World} (h : NetAt B bn seed drawn now last es k m wire w) (hk : Below w.heap.size w w') : NetAt B bn seed drawn now last es k m wire w' := by
  obtain ⟨h0, ev, mo, mw, h1, h2, h3, h4, h5, h6, h7, h8, h9⟩ := h
  exact ⟨h0, ev, mo, mw, h1.below hk h1.lt, h2, h3, h4.below hk h4.lt, (hk.block mw (Array.getElem?_eq_some_iff.1 h5).1).trans h5, h6, h7, own_below h8 hk (own_lt h8), h9⟩
theorem NetAt.drew {B bn k : Nat} {seed : ByteArray} {drawn now last : Int} {es : List Value} {m : ByteArray → Option Int} {wire : Obj} {w : World} (h : NetAt B bn seed drawn now last es k m wire w) : NetAt B bn seed drawn now last es k m wire w.drew := h
theorem NetAt.lt {B bn k : Nat} {seed : ByteArray} {drawn now last : Int} {es : List Value} {m : ByteArray → Option Int} {wire : Obj} {w : World} (h : NetAt B bn seed drawn now last es k m wire w) : bn < w.heap.size := by obtain ⟨_, _, _, _, h, _⟩ := h; exact h.lt
theorem NetAt.base {B bn k : Nat} {seed : ByteArray} {drawn now last : Int} {es : List Value} {m : ByteArray → Option Int} {wire : Obj} {w : World} (h : NetAt B bn seed drawn now last es k m wire w) : B ≤ bn := h.1
theorem own_arr_ne {T e : TypeId} {B b : Nat} {w : World} {v : Value} {n : Nat} {xs cs : List Value} (hT : T ≠ e) (hA : ArrAt w b T cs) (h : w.ownsRow B e 1 v n xs) : v.ownBlock ≠ some b := by
  rcases h.2 with ⟨rfl, _⟩ | ⟨g, cap, cur, rfl, _, a2, _⟩
  · simp [Value.ownBlock]
  · intro e
    simp [Value.ownBlock] at e
    subst e
    have a2' := a2
    unfold ArrAt at hA
    rw [hA] at a2'
    simp at a2'
    exact hT a2'.2
theorem own_smap_ne {e : TypeId} {B b k : Nat} {w : World} {v : Value} {n : Nat} {xs : List Value} {m : ByteArray → Option Int} (hm : SMap w b k m) (h : w.ownsRow B e 1 v n xs) : v.ownBlock ≠ some b := by
  rcases h.2 with ⟨rfl, _⟩ | ⟨g, cap, cur, rfl, _, a2, _⟩
  · simp [Value.ownBlock]
  · intro e
    simp [Value.ownBlock] at e
    subst e
    obtain ⟨D, ⟨es, clock, hb, _⟩, _⟩ := hm
    rw [a2] at hb
    simp at hb
/-- What a Net's methods leave of all blocks but those of Nets and of rows of endpoints. -/
def ArrKeep (w w' : World) : Prop := ∀ b T xs, T ≠ 64 → T ≠ 38 → ArrAt w b T xs → ArrAt w' b T xs
theorem ArrKeep.refl (w : World) : ArrKeep w w := fun _ _ _ _ _ h => h
theorem ArrKeep.trans {a b c : World} (h : ArrKeep a b) (k : ArrKeep b c) : ArrKeep a c := fun x T xs h1 h2 h3 => k x T xs h1 h2 (h x T xs h1 h2 h3)
theorem ArrKeep.of_below {w w' : World} (h : Below w.heap.size w w') : ArrKeep w w' := fun _ _ _ _ _ h3 => h3.below h h3.lt
theorem ArrKeep.drew {a w : World} (h : ArrKeep a w) : ArrKeep a w.drew := h
theorem ArrKeep.setCell {a w : World} (h : ArrKeep a w) {b : Nat} {cs : List Value} (hA : ArrAt w b 64 cs) (j : Nat) (v : Value) : ArrKeep a (w.setCell ⟨b, j, none⟩ v) := h.trans fun x T xs h1 h2 h3 =>
  h3.other _ _ (by rintro rfl; unfold ArrAt at hA h3; rw [hA] at h3; simp at h3; exact h1 h3.2.symm)
theorem ArrKeep.of_smap {w w' : World} {mo k : Nat} {m : ByteArray → Option Int} (hm : SMap w mo k m) (h : Keeps (· = mo) w.heap.size w w') : ArrKeep w w' := fun x T xs h1 h2 h3 =>
  h3.keeps h h3.lt (fun e => hm.not_arr h3 e.symm)
theorem ArrKeep.of_grown {w w' : World} {B : Nat} {v : Value} {n : Nat} {xs : List Value} (h : w.ownsRow B 38 1 v n xs) (hg : w.grownBy w' v.ownBlock) : ArrKeep w w' := fun x T ys h1 h2 h3 =>
  (hg.block x h3.lt (fun e => own_arr_ne h2 h3 h e.symm)).trans h3
/-- A slice of one's own is a slice. -/
theorem own_form {w : World} {B : Nat} {e : TypeId} {v : Value} {n : Nat} {xs : List Value} (h : w.ownsRow B e 1 v n xs) : ∃ ao c, v = .slice ao n c := by
  rcases h.2 with ⟨rfl, h0⟩ | ⟨g, cap, cur, rfl, _⟩
  · exact ⟨none, 0, by rw [h0]⟩
  · exact ⟨_, _, rfl⟩

set_option maxRecDepth 100000 in
theorem net_new (s : ByteArray) (B : Nat) (w : World) (hB : B ≤ w.heap.size) :
    Calls Tryz.prog 8 #[.string s] w fun e w' => ∃ bn, e = .returned (.pointer (some ⟨bn, 0, none⟩)) ∧ NetAt B bn s 0 0 0 [] 0 (fun _ => none) (.map #[] 0) w' ∧ Below w.heap.size w w' := by
  have hmm := @run_makeMap Tryz.prog
  go_enter Tryz.func8, Tryz.ntmps8
  go_wp2
  go_ret
  refine ⟨_, rfl, ⟨by omega, .slice none 0 0, w.heap.size, w.heap.size + 1, ?_, hB, by omega, ((SMap.made w).alloc _).alloc _, ?_, by omega, by simp, World.ownsRow_nil _ _ _ _, by simp [Value.ownBlock]⟩, ?_⟩
  · have := ArrAt.new ((w.alloc (.map #[] 0)).alloc (.map #[] 0)) [.string s, .int .i64 0, .int .i64 0, .slice none 0 0, .map (some w.heap.size), .map (some (w.heap.size + 1)), .int .i64 0] 64
    simpa using this
  · have := heap_alloc_new (w.alloc (.map #[] 0)) (.map #[] 0)
    refine (Below.heap_alloc ((w.alloc (.map #[] 0)).alloc (.map #[] 0)) _ (w.heap.size + 1) (by simp)).trans ?_
    simpa using this
  · exact (((Below.refl _ _).alloc (Nat.le_refl _) _).alloc (by simp) _).alloc (by simp; omega) _

set_option maxRecDepth 100000 in
theorem net_owner (B bn k : Nat) (seed s : ByteArray) (hs : s.size ≤ maxLen) (drawn now last : Int) (es : List Value) (m : ByteArray → Option Int) (wire : Obj) (w : World) (h : NetAt B bn seed drawn now last es k m wire w) :
    Calls Tryz.prog 10 #[.pointer (some ⟨bn, 0, none⟩), .string s] w fun e w' => e = .returned (.int .i64 ((m s).getD (-1))) ∧ w' = w := by
  obtain ⟨h0, ev, mo, mw, h1, _, _, h4, _⟩ := h
  have c4 := h1.cell 4
  simp only [List.getElem?_cons_zero, List.getElem?_cons_succ] at c4
  have hlook := h4.look s hs
  go_enter Tryz.func10, Tryz.ntmps10
  cases hm : m s with
  | none =>
    rw [hm] at hlook
    simp only [Option.getD, Option.isSome] at hlook
    go_wp2
    go_ret
    exact ⟨rfl, rfl⟩
  | some x =>
    rw [hm] at hlook
    simp only [Option.getD, Option.isSome] at hlook
    go_wp2
    go_ret
    exact ⟨rfl, rfl⟩

set_option maxRecDepth 100000 in
set_option maxHeartbeats 1000000 in
theorem net_end (B bn k : Nat) (seed : ByteArray) (drawn now last i : Int) (es : List Value) (m : ByteArray → Option Int) (wire : Obj) (w : World) (hi : -1 ≤ i) (hb : es.length ≤ 8) (h : NetAt B bn seed drawn now last es k m wire w) :
    Calls Tryz.prog 11 #[.pointer (some ⟨bn, 0, none⟩), .int .i64 i] w fun e w' => e = .returned (if i < 0 then .pointer none else (es.getD i.toNat (.pointer none))) ∧ w' = w := by
  obtain ⟨h0, ev, mo, mw, h1, _, _, _, _, _, _, h8, _⟩ := h
  have c3 := h1.cell 3
  simp only [List.getElem?_cons_zero, List.getElem?_cons_succ] at c3
  obtain ⟨ao, c, rfl⟩ := own_form h8
  by_cases hneg : i < 0
  · rw [if_pos hneg]
    go_enter Tryz.func11, Tryz.ntmps11
    go_wp2
    go_ret
    exact ⟨rfl, rfl⟩
  · rw [if_neg hneg]
    obtain ⟨j, rfl⟩ : ∃ j : Nat, i = (j : Int) := ⟨i.toNat, by omega⟩
    by_cases hlt : j < es.length
    · obtain ⟨g, cp, hv, _, _⟩ := h8.form (by omega)
      simp at hv
      obtain ⟨rfl, rfl⟩ := hv
      obtain ⟨v, hv⟩ : ∃ v, v = es.getD j (.pointer none) := ⟨_, rfl⟩
      have cj : w.cell? ⟨g, j, none⟩ = some v := by
        rw [h8.cellAt j (by omega), hv, List.getD_eq_getElem?_getD, List.getElem?_eq_getElem hlt]; rfl
      have hlI : (j : Int) < (es.length : Int) := by omega
      have hnI : ¬ (es.length : Int) ≤ (j : Int) := by omega
      have HV := Lib.hid hv
      clear hv
      go_enter Tryz.func11, Tryz.ntmps11
      go_wp2
      go_ret
      have e : v = es[j] := by rw [HV.out, List.getD_eq_getElem?_getD, List.getElem?_eq_getElem hlt]; rfl
      exact ⟨congrArg Ending.returned e, rfl⟩
    · have hge : (es.length : Int) ≤ (j : Int) := by omega
      go_enter Tryz.func11, Tryz.ntmps11
      go_wp2
      go_ret
      exact ⟨rfl, rfl⟩
end Go.Proofs.YtjpdagfdcniphaaGreatDoor
