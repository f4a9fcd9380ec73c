/-
  Blocks of memory: what one holds, and what stands as it stood where only one block has changed.
-/
import Derived.Test.YtjjmnpgbcgkcpaaDoorProg
import Derived.WalkKit
import Derived.Below
import Derived.Deep.Draws
import Derived.Lib.Hide
import Derived.Lib.Builder
import Derived.Laws.Rows
set_option linter.unusedVariables false
namespace Go.Proofs.YtjjmnpgbcgkcpaaDoor
open Go.RowKit

/-- nothing but block b, and new blocks, have changed -/
structure Keeps (b : Nat) (w w' : World) : Prop where
  os : w'.os = w.os
  tape : w'.tape = w.tape
  output : w'.output = w.output
  size : w.heap.size ≤ w'.heap.size
  block : ∀ k, k < w.heap.size → k ≠ b → w'.heap[k]? = w.heap[k]?

theorem Keeps.refl (b : Nat) (w : World) : Keeps b w w := ⟨rfl, rfl, rfl, Nat.le_refl _, fun _ _ _ => rfl⟩
theorem Keeps.trans {b : Nat} {a c d : World} (h : Keeps b a c) (k : Keeps b c d) : Keeps b a d :=
  ⟨k.os.trans h.os, k.tape.trans h.tape, k.output.trans h.output, Nat.le_trans h.size k.size, fun i hi hb => (k.block i (Nat.lt_of_lt_of_le hi h.size) hb).trans (h.block i hi hb)⟩
theorem Keeps.of (b : Nat) {w w' : World} (h : Below w.heap.size w w') : Keeps b w w' := ⟨h.os, h.tape, h.output, h.size, fun k hk _ => h.block k hk⟩
theorem Keeps.set (b : Nat) (w : World) (j : Nat) (x : Value) : Keeps b w (w.setCell ⟨b, j, none⟩ x) :=
  ⟨rfl, rfl, rfl, by simp [World.setCell], fun k hk hb => Below.heap_setCell _ _ _ _ hb⟩
theorem Keeps.below {b B : Nat} {w w' : World} (h : Keeps b w w') (hB : B ≤ b) (hb : b < w.heap.size) : Below B w w' :=
  ⟨h.os, h.tape, h.output, h.size, fun k hk => h.block k (by omega) (by omega)⟩
theorem Keeps.drew {b : Nat} {w w' : World} (h : Keeps b w.drew w') : Keeps b w w' := ⟨h.os, h.tape, h.output, h.size, h.block⟩
theorem Keeps.mono_alloc {b : Nat} {w w' : World} {o : Obj} (h : Keeps b (w.alloc o) w') : Keeps b w w' :=
  (Keeps.of b ((Below.refl _ w).alloc (Nat.le_refl _) o)).trans h

/-- block b holds these values, cell by cell -/
def Blk (b : Nat) (l : List Value) (T : TypeId) (w : World) : Prop := w.heap[b]? = some (.cells l.toArray T (0, 0))
theorem Blk.lt {b : Nat} {l : List Value} {T : TypeId} {w : World} (h : Blk b l T w) : b < w.heap.size := (Array.getElem?_eq_some_iff.1 h).1
theorem Blk.cell {b : Nat} {l : List Value} {T : TypeId} {w : World} (h : Blk b l T w) (j : Nat) : w.cell? ⟨b, j, none⟩ = l[j]? := by
  rw [Lib.cell_of_heap h]; simp
theorem Blk.free {b : Nat} {l : List Value} {T : TypeId} {w : World} (h : Blk b l T w) (j : Nat) : w.frozen? ⟨b, j, none⟩ = false := Lib.frozen_of_heap h j
theorem Blk.set {b : Nat} {l : List Value} {T : TypeId} {w : World} (h : Blk b l T w) (j : Nat) (v : Value) : Blk b (l.set j v) T (w.setCell ⟨b, j, none⟩ v) := by
  unfold Blk at *
  rw [heap_setCell_same w b j _ T v h]; simp
theorem Blk.other {b c : Nat} {l : List Value} {T : TypeId} {w : World} (h : Blk b l T w) (j : Nat) (v : Value) (hne : b ≠ c) : Blk b l T (w.setCell ⟨c, j, none⟩ v) := by
  unfold Blk at *
  rw [heap_setCell_other w ⟨c, j, none⟩ b v hne]; exact h
theorem Blk.keep {b : Nat} {l : List Value} {T : TypeId} {w w' : World} (h : Blk b l T w) (hB : Below w.heap.size w w') : Blk b l T w' := (hB.block b h.lt).trans h
theorem Blk.keeps {b c : Nat} {l : List Value} {T : TypeId} {w w' : World} (h : Blk b l T w) (hB : Keeps c w w') (hne : b ≠ c) : Blk b l T w' := (hB.block b h.lt hne).trans h
theorem Blk.new (l : List Value) (T : TypeId) (w : World) : Blk w.heap.size l T (w.alloc (.cells l.toArray T)) := by
  show (w.heap.push _)[w.heap.size]? = _
  simp
theorem Blk.alloc {b : Nat} {l : List Value} {T : TypeId} {w : World} (h : Blk b l T w) (o : Obj) : Blk b l T (w.alloc o) := h.keep ((Below.refl _ w).alloc (Nat.le_refl _) o)
theorem Blk.drewN {b : Nat} {l : List Value} {T : TypeId} {w : World} (h : Blk b l T w) (n : Nat) : Blk b l T (w.drewN n) := h
theorem Blk.drew {b : Nat} {l : List Value} {T : TypeId} {w : World} (h : Blk b l T w) : Blk b l T w.drew := h

end Go.Proofs.YtjjmnpgbcgkcpaaDoor
