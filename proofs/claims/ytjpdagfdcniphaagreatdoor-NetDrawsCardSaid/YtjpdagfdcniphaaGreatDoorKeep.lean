/- What a call leaves of old memory, where some blocks may be written. -/
import Derived.Test.YtjpdagfdcniphaaGreatDoorArr
set_option linter.unusedVariables false
set_option linter.unusedSimpArgs false
namespace Go.Proofs.YtjpdagfdcniphaaGreatDoor
open Go.RowKit

/-- Below block number B nothing has turned but the blocks of M. -/
structure Keeps (M : Nat → Prop) (B : Nat) (w w' : World) : Prop where
  os : w'.os = w.os
  tape : w'.tape = w.tape
  output : w'.output = w.output
  size : w.heap.size ≤ w'.heap.size
  block : ∀ k, k < B → ¬ M k → w'.heap[k]? = w.heap[k]?

theorem Keeps.refl (M : Nat → Prop) (B : Nat) (w : World) : Keeps M B w w := ⟨rfl, rfl, rfl, Nat.le_refl _, fun _ _ _ => rfl⟩
theorem Keeps.trans {M : Nat → Prop} {B : Nat} {a b c : World} (h : Keeps M B a b) (k : Keeps M B b c) : Keeps M B a c :=
  ⟨k.os.trans h.os, k.tape.trans h.tape, k.output.trans h.output, Nat.le_trans h.size k.size, fun i hi hm => (k.block i hi hm).trans (h.block i hi hm)⟩
theorem Keeps.mono {M M' : Nat → Prop} {B B' : Nat} {w w' : World} (h : Keeps M B w w') (hB : B' ≤ B) (hM : ∀ k, k < B' → M k → M' k) : Keeps M' B' w w' :=
  ⟨h.os, h.tape, h.output, h.size, fun k hk hm => h.block k (Nat.lt_of_lt_of_le hk hB) (fun x => hm (hM k hk x))⟩
theorem Keeps.of_below {M : Nat → Prop} {B : Nat} {w w' : World} (h : Below B w w') : Keeps M B w w' := ⟨h.os, h.tape, h.output, h.size, fun k hk _ => h.block k hk⟩
theorem Keeps.below {M : Nat → Prop} {B : Nat} {w w' : World} (h : Keeps M B w w') (hM : ∀ k, k < B → ¬ M k) : Below B w w' := ⟨h.os, h.tape, h.output, h.size, fun k hk => h.block k hk (hM k hk)⟩
theorem Keeps.drew {M : Nat → Prop} {B : Nat} {a w : World} (h : Keeps M B a w) : Keeps M B a w.drew := ⟨h.os, h.tape, h.output, h.size, h.block⟩
theorem Keeps.drewN {M : Nat → Prop} {B : Nat} {a w : World} (h : Keeps M B a w) (n : Nat) : Keeps M B a (w.drewN n) := ⟨h.os, h.tape, h.output, h.size, h.block⟩
theorem Keeps.alloc {M : Nat → Prop} {B : Nat} {a w : World} (h : Keeps M B a w) (hB : B ≤ w.heap.size) (o : Obj) : Keeps M B a (w.alloc o) :=
  h.trans (Keeps.of_below ((Below.refl B w).alloc hB o))
theorem Keeps.setCell {M : Nat → Prop} {B : Nat} {a w : World} (h : Keeps M B a w) {p : Addr} (hp : M p.block ∨ B ≤ p.block) (u : Value) : Keeps M B a (w.setCell p u) :=
  h.trans ⟨rfl, rfl, rfl, by simp [World.setCell], fun k hk hm => Below.heap_setCell _ _ _ _ (by rintro rfl; rcases hp with hp | hp; exact hm hp; omega)⟩
theorem Keeps.setCells {M : Nat → Prop} {B : Nat} {a w : World} (h : Keeps M B a w) (b : Nat) (hp : M b ∨ B ≤ b) (vs : List Value) (o : Nat) : Keeps M B a (w.setCells b o vs) := by
  induction vs generalizing w o with
  | nil => exact h
  | cons v vs ih => exact ih (h.setCell (p := ⟨b, o, none⟩) hp v) _
theorem Keeps.then_below {M : Nat → Prop} {B : Nat} {a b c : World} (h : Keeps M B a b) (k : Below b.heap.size b c) (hB : B ≤ b.heap.size) : Keeps M B a c := h.trans (Keeps.of_below (k.mono hB))
theorem Keeps.cell {M : Nat → Prop} {B : Nat} {w w' : World} (h : Keeps M B w w') {p : Addr} (hp : p.block < B) (hm : ¬ M p.block) : w'.cell? p = w.cell? p := World.cell?_of_block (w := w) (h.block p.block hp hm)
theorem Keeps.frozen {M : Nat → Prop} {B : Nat} {w w' : World} (h : Keeps M B w w') {p : Addr} (hp : p.block < B) (hm : ¬ M p.block) : w'.frozen? p = w.frozen? p := World.frozen?_of_block (w := w) (h.block p.block hp hm)
theorem Keeps.appended {M : Nat → Prop} {B : Nat} {w0 w w' : World} {base : Nat} {e : TypeId} {size : Nat} {v v' : Value} {n m : Nat} {xs news : List Value} (h : Keeps M B w0 w) (hA : Appended w w' base e size v v' n m xs news)
    (hB : B ≤ w.heap.size) (hb : ∀ k, v.ownBlock = some k → M k ∨ B ≤ k) : Keeps M B w0 w' :=
  h.trans ⟨hA.grown.os, hA.grown.tape, hA.grown.output, hA.grown.size, fun k hk hm => hA.grown.block k (by omega) (fun e => by rcases hb k e.symm with x | x; exact hm x; omega)⟩
theorem ArrAt.keeps {M : Nat → Prop} {B : Nat} {w w' : World} {b : Nat} {t : TypeId} {xs : List Value} (h : ArrAt w b t xs) (hb : Keeps M B w w') (hB : b < B) (hm : ¬ M b) : ArrAt w' b t xs := (hb.block b hB hm).trans h
theorem own_keeps {M : Nat → Prop} {B : Nat} {w w' : World} {base : Nat} {e : TypeId} {size : Nat} {v : Value} {n : Nat} {xs : List Value} (h : w.ownsRow base e size v n xs) (hb : Keeps M B w w') (hB : ∀ k, v.ownBlock = some k → k < B ∧ ¬ M k) : w'.ownsRow base e size v n xs := by
  refine ⟨h.1, ?_⟩
  rcases h.2 with ⟨rfl, h0⟩ | ⟨g, cap, cur, rfl, a1, a2, a3⟩
  · exact .inl ⟨rfl, h0⟩
  · exact .inr ⟨g, cap, cur, rfl, a1, by rw [hb.block g (hB g rfl).1 (hB g rfl).2]; exact a2, a3⟩

theorem Keeps.fresh {b B B' : Nat} {w w' : World} (h : Keeps (· = b) B w w') (h1 : B' ≤ B) (h2 : B' ≤ b) : Below B' w w' :=
  (h.mono (B' := B') (M' := fun _ => False) h1 (fun k hk hm => by omega)).below (fun _ _ h => h)

/-- What a store into the cells of one block leaves. -/
theorem Keeps.of_setCells (w : World) (b : Nat) (vs : List Value) (o : Nat) : Keeps (· = b) w.heap.size w (w.setCells b o vs) := Keeps.setCells (M := (· = b)) (Keeps.refl _ _ w) b (.inl rfl) vs o
theorem size_setCells (w : World) (b : Nat) (vs : List Value) (o : Nat) : (w.setCells b o vs).heap.size = w.heap.size := by
  induction vs generalizing w o with
  | nil => rfl
  | cons v vs ih => rw [World.setCells, ih]; simp [World.setCell]

/-- A value of as many cells as the block has goes into the block. -/
theorem wpList_store_arr {P : Program} {ops : Array Oper} {rest : List Oper} {op : Oper} {a : Act} {w : World} {Q : Exit → Act → World → Prop} (hgd : op.guard = none) (ty : TypeId) (x y : Operand) (ho : op.op = .store ty x y)
    (b : Nat) (t : TypeId) (old vs : List Value) (hx : a.eval x = .pointer (some ⟨b, 0, none⟩)) (hy : a.eval y = .agg vs.toArray) (hA : ArrAt w b t old) (hl : vs.length = old.length)
    (hi : (P.info? ty).map (·.size) = some vs.length) (h1 : ∀ v ∈ vs, v.oneCell' = true)
    (h : ∀ v, ArrAt v b t vs → Keeps (· = b) w.heap.size w v → v.heap.size = w.heap.size → wpList P ops Q rest (a.put op.dst undef) v) : wpList P ops Q (op :: rest) a w := by
  refine wpList_store_mid hgd ty x y ho b 0 vs.toArray hx hy (by have := hA.there; simpa [hl] using this) (by simpa using hi) (all_oneCell_toArray h1) ?_
  refine h _ ?_ (Keeps.of_setCells _ _ _ _) (size_setCells _ _ _ _)
  simpa using hA.setAll vs hl
theorem int_one {k : IntKind} {xs : List Int} : ∀ v ∈ xs.map (Value.int k), v.oneCell' = true := by
  intro v hv
  obtain ⟨_, _, rfl⟩ := List.mem_map.1 hv
  rfl
theorem hide_world {C : World → Prop} {P : World → Prop} {w : World} (hp : P w) (h : ∀ v, P v → C v) : C w := h w hp
/-- A new block, hidden behind what is known of it. -/
theorem hide_alloc {C : World → Prop} {w : World} (t : TypeId) (xs : List Value) (h : ∀ v, ArrAt v w.heap.size t xs → Below w.heap.size w v → v.heap.size = w.heap.size + 1 → C v) : C (w.alloc (.cells xs.toArray t)) :=
  h _ (ArrAt.new w xs t) ((Below.refl _ _).alloc (Nat.le_refl _) _) (by simp)
end Go.Proofs.YtjpdagfdcniphaaGreatDoor
