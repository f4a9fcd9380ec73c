/-
  The reference's Put returns the same varint.
-/
import Derived.Test.YtnhbgjgfneoajaaDoorRefGet
set_option linter.unusedVariables false
namespace Go.Proofs.YtnhbgjgfneoajaaDoor
open Go.RowKit

/-- What the reference's loop carries: some groups are in its own slice, the rest is still to come. -/
def QRel (B n m : Nat) (v : Value) (w wr : World) : Prop :=
  m < 18446744073709551616 ∧ ∃ pre : List UInt8, wr.ownsRow B 5 1 v pre.length (Lib.byteCells pre) ∧ Below B w wr ∧ pre ++ V.put m = V.put n

/-- one cell that lies in a new block of its own -/
theorem one_at (w : World) (x : Value) (t : TypeId) : ∀ j u, [x][j]? = some u → (w.alloc (.cells #[x] t)).cell? ((⟨w.heap.size, 0, none⟩ : Addr).add j) = some u := by
  intro j u hj
  match j, hj with
  | 0, hj => simp at hj; subst hj; simp [Addr.add]

theorem one_cell (x : Value) (h : x.oneCell' = true) : ∀ u ∈ [x], u.oneCell' = true := by
  intro u hu; simp at hu; subst hu; exact h

theorem step128 (m : Nat) (h : m < 18446744073709551616) : 128 + (m : Int) % 128 = ((UInt8.ofNat (m % 128 + 128)).toNat : Int) := by
  rw [V.ofNat_toNat _ (by omega)]; omega

theorem byteCells_one (b : UInt8) : Lib.byteCells [b] = [.int .u8 (b.toNat : Int)] := rfl

/-- the bytes that an owned slice holds, as 'string(..)' asks for them -/
theorem owned_bytes {w : World} {B g cap : Nat} {l : List UInt8} (h : w.ownsRow B 5 1 (.slice (some ⟨g, 0, none⟩) l.length cap) l.length (Lib.byteCells l)) :
    ∀ j (hj : j < l.length), w.cell? ((⟨g, 0, none⟩ : Addr).add j) = some (.int .u8 (l[j].toNat : Int)) := by
  intro j hj
  refine h.cells rfl j _ ?_
  simp [Lib.byteCells, hj]


end Go.Proofs.YtnhbgjgfneoajaaDoor
