/- Arrays (one block each), read and written cell by cell. -/
import Derived.Test.YtjpdagfdcniphaaGreatDoorBase
import Derived.Deep.MidRow
import Derived.Laws.ResultCell
set_option linter.unusedVariables false
set_option linter.unusedSimpArgs false
namespace Go.Proofs.YtjpdagfdcniphaaGreatDoor
open Go.RowKit

/-- Block b holds just these cells. -/
def ArrAt (w : World) (b : Nat) (t : TypeId) (xs : List Value) : Prop := w.heap[b]? = some (.cells xs.toArray t (0, 0))

theorem ArrAt.lt {w : World} {b : Nat} {t : TypeId} {xs : List Value} (h : ArrAt w b t xs) : b < w.heap.size := (Array.getElem?_eq_some_iff.1 h).1
theorem ArrAt.cell {w : World} {b : Nat} {t : TypeId} {xs : List Value} (h : ArrAt w b t xs) (j : Nat) : w.cell? ⟨b, j, none⟩ = xs[j]? := by
  rw [cell_of_row w b j _ t (0, 0) h]; simp
theorem ArrAt.frozen {w : World} {b : Nat} {t : TypeId} {xs : List Value} (h : ArrAt w b t xs) (j : Nat) : w.frozen? ⟨b, j, none⟩ = false := frozen_of_row w b j _ t h
theorem ArrAt.drewN {w : World} {b : Nat} {t : TypeId} {xs : List Value} (h : ArrAt w b t xs) (n : Nat) : ArrAt (w.drewN n) b t xs := h
theorem ArrAt.drew {w : World} {b : Nat} {t : TypeId} {xs : List Value} (h : ArrAt w b t xs) : ArrAt w.drew b t xs := h
theorem ArrAt.alloc {w : World} {b : Nat} {t : TypeId} {xs : List Value} (h : ArrAt w b t xs) (o : Obj) : ArrAt (w.alloc o) b t xs := (Below.heap_alloc w o b h.lt).trans h
theorem ArrAt.new (w : World) (xs : List Value) (t : TypeId) : ArrAt (w.alloc (.cells xs.toArray t)) w.heap.size t xs := heap_alloc_new w _
theorem ArrAt.below {B : Nat} {w w' : World} {b : Nat} {t : TypeId} {xs : List Value} (h : ArrAt w b t xs) (hb : Below B w w') (hB : b < B) : ArrAt w' b t xs := (hb.block b hB).trans h
theorem ArrAt.set {w : World} {b : Nat} {t : TypeId} {xs : List Value} (h : ArrAt w b t xs) (j : Nat) (v : Value) : ArrAt (w.setCell ⟨b, j, none⟩ v) b t (xs.set j v) := by
  have := heap_setCell_same w b j _ t v h
  rw [List.setIfInBounds_toArray] at this
  exact this
theorem ArrAt.other {w : World} {b : Nat} {t : TypeId} {xs : List Value} (h : ArrAt w b t xs) (a : Addr) (v : Value) (hne : b ≠ a.block) : ArrAt (w.setCell a v) b t xs := (heap_setCell_other w a b v hne).trans h
theorem ArrAt.others {w : World} {b : Nat} {t : TypeId} {xs : List Value} (h : ArrAt w b t xs) (b' o : Nat) (vs : List Value) (hne : b ≠ b') : ArrAt (w.setCells b' o vs) b t xs := by
  induction vs generalizing w o with
  | nil => exact h
  | cons v vs ih => exact ih (h.other _ _ hne) _
theorem ArrAt.range {w : World} {b : Nat} {t : TypeId} {xs : List Value} (h : ArrAt w b t xs) : w.rangeAt b 0 xs := fun j v hv => by rw [Nat.zero_add, h.cell j]; exact hv
theorem ArrAt.there {w : World} {b : Nat} {t : TypeId} {xs : List Value} (h : ArrAt w b t xs) : w.there b 0 xs.length := fun j hj => by
  rw [Nat.zero_add, h.cell j, List.getElem?_eq_getElem hj]
  exact ⟨rfl, h.frozen j⟩

theorem ArrAt.setCells {w : World} {b : Nat} {t : TypeId} {xs : List Value} (h : ArrAt w b t xs) (vs : List Value) (o : Nat) (hl : o + vs.length ≤ xs.length) :
    ArrAt (w.setCells b o vs) b t (xs.take o ++ vs ++ xs.drop (o + vs.length)) := by
  induction vs generalizing w xs o with
  | nil => simpa [World.setCells] using h
  | cons v vs ih =>
    have h1 := h.set o v
    have := ih h1 (o + 1) (by simp at hl ⊢; omega)
    have e : (xs.set o v).take (o + 1) ++ vs ++ (xs.set o v).drop (o + 1 + vs.length) = xs.take o ++ v :: vs ++ xs.drop (o + (v :: vs).length) := by
      have ho : o < xs.length := by simp at hl; omega
      rw [List.take_set, List.drop_set_of_lt (by omega), List.take_succ_eq_append_getElem ho, List.set_append_right _ _ (by rw [List.length_take]; omega), List.length_take, Nat.min_eq_left (by omega), Nat.sub_self, List.set_cons_zero]
      simp [Nat.add_assoc, Nat.add_comm 1]
    rw [e] at this
    exact this
theorem ArrAt.setAll {w : World} {b : Nat} {t : TypeId} {xs : List Value} (h : ArrAt w b t xs) (vs : List Value) (hl : vs.length = xs.length) : ArrAt (w.setCells b 0 vs) b t vs := by
  have := h.setCells vs 0 (by omega)
  rw [Nat.zero_add, hl, List.take_zero, List.nil_append, List.drop_length, List.append_nil] at this
  exact this
theorem Below.setCells {B : Nat} {a w : World} (h : Below B a w) (b : Nat) (hb : B ≤ b) (vs : List Value) (o : Nat) : Below B a (w.setCells b o vs) := by
  induction vs generalizing w o with
  | nil => exact h
  | cons v vs ih => exact ih (h.setCell hb v) _

/-- A cell of an array of numbers, under a name of its own, for a walk. -/
theorem ArrAt.num {w : World} {b : Nat} {t : TypeId} {k : IntKind} {xs : List Int} (h : ArrAt w b t (xs.map (.int k))) (j : Nat) (hj : j < xs.length) :
    ∃ x : Int, Hid (x = xs.getD j 0) ∧ w.cell? ⟨b, j, none⟩ = some (.int k x) ∧ x ∈ xs := by
  refine ⟨xs[j], Lib.hid ?_, ?_, List.getElem_mem hj⟩
  · rw [List.getD_eq_getElem?_getD, List.getElem?_eq_getElem hj]; rfl
  · rw [h.cell j, List.getElem?_map, List.getElem?_eq_getElem hj]; rfl

/-- An array value, read at a place. -/
theorem run_index_row {P : Program} {k : IntKind} {xs : List Int} (w : World) (ty elem : TypeId) (n j : Nat) (z : Int) (hu : P.underlying ty = some (.array n elem)) (hs : (P.info? elem).map (·.size) = some 1) (ha : (isAgg elem).run P w = .ok false w) (hj : j < n) (hv : xs[j]? = some z) :
    (Instr.index ty (.agg (xs.map (Value.int k)).toArray) (.int .i64 (j : Int))).run P w = .ok (.int k z) w := by
  cases hq : P.info? elem with
  | none => simp [hq] at hs
  | some i =>
    have hi : i.size = 1 := by simpa [hq] using hs
    have h1 : (j : Int) < n := by omega
    simp [Instr.index, asIntOf, run_underlying hu, sizeOf, typeInfo, hq, hi, part, hj, hv, ha]
end Go.Proofs.YtjpdagfdcniphaaGreatDoor
