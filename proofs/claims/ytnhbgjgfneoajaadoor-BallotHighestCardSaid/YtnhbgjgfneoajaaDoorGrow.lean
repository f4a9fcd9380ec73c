/-
  A region that draws its order and whose callees write nothing that was there: one walk, in the text's order, at every world that has only grown.
-/
import Derived.Test.YtnhbgjgfneoajaaDoorProg
import Derived.WalkKit
import Derived.BigQuiet
import Derived.Below
import Derived.Deep.RegionWith
set_option linter.unusedVariables false
namespace Go.Proofs.YtnhbgjgfneoajaaDoor
open Go.RowKit

/-- the worlds in which all that was there in w stands as it stood -/
def Gr (w : World) : Type := { u : World // Below w.heap.size w u }
instance (w : World) : Nonempty (Gr w) := ⟨⟨w, Below.refl _ w⟩⟩
def Gr.u {w : World} (x : Gr w) : World := x.1
theorem Gr.below {w : World} (x : Gr w) : Below w.heap.size w x.u := x.2
def Gr.to {w : World} (x : Gr w) (u : World) (h : Below x.u.heap.size x.u u) : Gr w := ⟨u, x.2.trans (h.mono x.2.size)⟩

section
variable {P : Program} {f : FuncId} {args : Array Value} {w : World} {v : Value}
theorem region_grow {id : Nat} {Q : Exit → Act → World → Prop} {a : Act} {l : List Oper} (hm : P.follows .mixedOrders = true) (hB : Region.lexB .any l.toArray = true)
    (h : wpQuiet P l.toArray (fun w' => ∃ x : Gr w, w' = x.u) (fun a' => ∀ w', (∃ x : Gr w, w' = x.u) → Q .normal a' w') l a) : (Code.region id l.toArray true).wp P Q a w :=
  wp_region_quiet (C := fun w' => ∃ x : Gr w, w' = x.u) hm hB ⟨⟨w.drew, ⟨rfl, rfl, rfl, Nat.le_refl _, fun _ _ => rfl⟩⟩, rfl⟩ (by simpa using h)

theorem Gr.cell (x : Gr w) {b j : Nat} {c : Value} (h : w.cell? ⟨b, j, none⟩ = some c) : x.u.cell? ⟨b, j, none⟩ = some c := by
  have hb : b < w.heap.size := by
    unfold World.cell? at h
    split at h
    · rename_i h1; exact (Array.getElem?_eq_some_iff.1 h1).1
    · cases h
  unfold World.cell? at h ⊢
  rw [x.below.block b hb]
  exact h
/-- a contract of a callee that only makes new memory, met in a grown world -/
theorem grow_of (x : Gr w) (h : Calls P f args x.u fun e w' => e = .returned v ∧ Below x.u.heap.size x.u w') : Calls P f args x.u fun e w'' => e = .returned v ∧ ∃ y : Gr w, w'' = y.u :=
  h.mono fun _ w' ⟨he, hb⟩ => ⟨he, x.to w' hb, rfl⟩
theorem grow_same (x : Gr w) (h : Calls P f args x.u fun e w' => e = .returned v ∧ w' = x.u) : Calls P f args x.u fun e w'' => e = .returned v ∧ ∃ y : Gr w, w'' = y.u :=
  h.mono fun _ w' ⟨he, hb⟩ => ⟨he, x, hb⟩
end
end Go.Proofs.YtnhbgjgfneoajaaDoor
