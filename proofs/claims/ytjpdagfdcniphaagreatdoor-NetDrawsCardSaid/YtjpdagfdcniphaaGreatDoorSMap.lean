/- A map from texts to numbers, as a function. -/
import Derived.Test.YtjpdagfdcniphaaGreatDoorKeep
import Derived.Maps.OwnSet
import Derived.Carry
import Derived.StringKeys
set_option linter.unusedVariables false
set_option linter.unusedSimpArgs false
namespace Go.Proofs.YtjpdagfdcniphaaGreatDoor
open Go.RowKit Go.Maps

theorem zero_int (w : World) : (zeroValue 3).run Tryz.prog w = .ok (.int .i64 0) w := by kernel_rfl
theorem law_string : Keyed Tryz.prog 9 := string_keyed Tryz.underlying9
theorem law_int : Keyed Tryz.prog 3 := int_keyed Tryz.underlying3

/-- Block b holds a map of at most n entries: the text s has the number m s. -/
def SMap (w : World) (b n : Nat) (m : ByteArray → Option Int) : Prop :=
  ∃ D : DataW Unit, w.ownsMap Tryz.prog 9 (plainElem Tryz.prog 3) b n D ∧ ∀ s : ByteArray, s.size ≤ maxLen → Maps.has D (.string s.data.toList) = (m s).isSome ∧ ∀ x, m s = some x → D.atKey (.string s.data.toList) (.lit (.int .i64 0)) = .lit (.int .i64 x)

theorem SMap.made (w : World) : SMap (w.alloc (.map #[] 0)) w.heap.size 0 (fun _ => none) :=
  ⟨.map [], World.ownsMap_made _ _ _ _, fun s _ => ⟨rfl, fun x h => by cases h⟩⟩
theorem SMap.lt {w : World} {b n : Nat} {m : ByteArray → Option Int} (h : SMap w b n m) : b < w.heap.size := by obtain ⟨D, h, _⟩ := h; exact h.lt
theorem SMap.mono {w : World} {b n n' : Nat} {m : ByteArray → Option Int} (h : SMap w b n m) (hn : n ≤ n') : SMap w b n' m := by obtain ⟨D, h, k⟩ := h; exact ⟨D, h.mono hn, k⟩
theorem SMap.drewN {w : World} {b n : Nat} {m : ByteArray → Option Int} (h : SMap w b n m) (k : Nat) : SMap (w.drewN k) b n m := h
theorem SMap.drew {w : World} {b n : Nat} {m : ByteArray → Option Int} (h : SMap w b n m) : SMap w.drew b n m := h
theorem SMap.keeps {w w' : World} {b n B : Nat} {m : ByteArray → Option Int} {M : Nat → Prop} (h : SMap w b n m) (hk : Keeps M B w w') (hb : b < B) (hM : ¬ M b) : SMap w' b n m := by
  obtain ⟨D, ⟨es, clock, hb', r⟩, k⟩ := h
  exact ⟨D, ⟨es, clock, (hk.block b hb hM).trans hb', r⟩, k⟩
theorem SMap.below {w w' : World} {b n B : Nat} {m : ByteArray → Option Int} (h : SMap w b n m) (hk : Below B w w') (hb : b < B) : SMap w' b n m := h.keeps (M := fun _ => False) (Keeps.of_below hk) hb (fun h => h)
theorem SMap.alloc {w : World} {b n : Nat} {m : ByteArray → Option Int} (h : SMap w b n m) (o : Obj) : SMap (w.alloc o) b n m := h.below ((Below.refl w.heap.size w).alloc (Nat.le_refl _) o) h.lt
theorem SMap.not_arr {w : World} {b n : Nat} {m : ByteArray → Option Int} (h : SMap w b n m) {t : TypeId} {xs : List Value} {b' : Nat} (hA : ArrAt w b' t xs) : b ≠ b' := by
  rintro rfl
  obtain ⟨D, ⟨es, clock, hb, _⟩, _⟩ := h
  unfold ArrAt at hA
  rw [hA] at hb
  simp at hb

theorem SMap.not_cell {w : World} {b n : Nat} {m : ByteArray → Option Int} (h : SMap w b n m) (j : Nat) : w.cell? ⟨b, j, none⟩ = none := by
  obtain ⟨D, ⟨es, clock, hb, _⟩, _⟩ := h
  simp [World.cell?, hb]

theorem SMap.look {w : World} {b n : Nat} {m : ByteArray → Option Int} (h : SMap w b n m) (s : ByteArray) (hs : s.size ≤ maxLen) :
    (Instr.lookup 60 (.map (some b)) (.string s) true).run Tryz.prog w = .ok (.tuple #[.int .i64 ((m s).getD 0), .bool (m s).isSome]) w := by
  obtain ⟨D, hown, hm⟩ := h
  obtain ⟨h1, h2⟩ := hm s hs
  obtain ⟨v, ps, hrun, hv⟩ := hown.look_ok law_string Tryz.underlying60 (zero_int w) (plainElem_int (q := .i64) Tryz.underlying3 (by decide)) (WideMaps.keyOf_string_mk Tryz.underlying9 hs)
  obtain ⟨c, rfl, hc, hwc⟩ := plainElem_int_inv Tryz.underlying3 hv
  have hc1 := congrArg Prod.fst hc
  simp only at hc1
  rw [h1] at hrun
  rw [hrun]
  cases hms : m s with
  | none =>
    have h3 : Maps.has D (.string s.data.toList) = false := by rw [h1, hms]; rfl
    have h4 : D.atKey (.string s.data.toList) (.lit (.int .i64 0)) = .lit (.int .i64 0) := atKey_of_not_has h3 _
    rw [h4] at hc1
    simp at hc1
    subst hc1
    rfl
  | some x =>
    rw [h2 x hms] at hc1
    simp at hc1
    subst hc1
    rfl

theorem SMap.update {w : World} {b n : Nat} {m : ByteArray → Option Int} (h : SMap w b n m) (s : ByteArray) (hs : s.size ≤ maxLen) (x : Int) (hx : (Lit.int .i64 x).wf = true) (hn : n < maxLen) :
    ∃ w', (Instr.mapUpdate 60 (.map (some b)) (.string s) (.int .i64 x)).run Tryz.prog w = .ok () w' ∧ SMap w' b (n + 1) (fun t => if t = s then some x else m t) ∧ w.grownBy w' (some b) := by
  obtain ⟨D, hown, hm⟩ := h
  have hkey := WideMaps.keyOf_string_mk (P := Tryz.prog) Tryz.underlying9 hs
  obtain ⟨w', hrun, hown', hg⟩ := hown.update law_string Tryz.underlying60 hn hkey (plainElem_int (q := .i64) Tryz.underlying3 hx)
  refine ⟨w', hrun, ⟨_, hown', ?_⟩, hg⟩
  intro t ht
  by_cases e : t = s
  · subst e
    simp only [if_true]
    exact ⟨has_put_same hown.isMap (law_string.key hkey) _, fun y hy => by cases hy; exact atKey_put_same hown.isMap (law_string.key hkey) _ _⟩
  · simp only [if_neg e]
    have hne : (Lit.string t.data.toList) ≠ (Lit.string s.data.toList) := by
      intro h
      apply e
      have : t.data.toList = s.data.toList := by injection h
      cases t; cases s
      simp at this
      rw [this]
    obtain ⟨h1, h2⟩ := hm t ht
    exact ⟨(has_put_other hne _).trans h1, fun y hy => (atKey_put_other hne _ _).trans (h2 y hy)⟩

theorem wpList_smap_update (w : World) {ops : Array Oper} {rest : List Oper} {o : Oper} {a : Act} {Q : Exit → Act → World → Prop} (hg : o.guard = none) (m x v : Operand) (hop : o.op = Op.mapUpdate 60 m x v)
    (b n : Nat) (f : ByteArray → Option Int) (h : SMap w b n f) (hn : n < maxLen) (s : ByteArray) (hs : s.size ≤ maxLen) (y : Int) (hy : (Lit.int .i64 y).wf = true) (hm : a.eval m = .map (some b)) (hx : a.eval x = .string s) (hv : a.eval v = .int .i64 y)
    (hK : ∀ w', SMap w' b (n + 1) (fun t => if t = s then some y else f t) → w.grownBy w' (some b) → wpList Tryz.prog ops Q rest (a.put o.dst undef) w') : wpList Tryz.prog ops Q (o :: rest) a w := by
  refine wpList_plain hg fun K' hK' => ?_
  obtain ⟨w', hrun, r1, r2⟩ := h.update s hs y hy hn
  unfold Oper.wp
  simp [execOp, hop, hm, hx, hv, hrun, Result.andThen]
  exact hK' _ _ (hK w' r1 r2)
end Go.Proofs.YtjpdagfdcniphaaGreatDoor
