/-
  A slice whose elements are several cells each, as it came in: the elements, row by row.
-/
import Derived.Test.YtnhbgjgfneoajaaDoorProg
import Derived.OpenShut
import Derived.ProofKit
import Derived.ChangeOld
import Derived.Deep.MidRow
import Derived.Below
set_option linter.unusedVariables false
namespace Go.Proofs.YtnhbgjgfneoajaaDoor
open Go.ChangeShapes Go.WideShapes Go.ChangeAt Go.RowKit

section
variable {H : Type} {enc : TypeId × Value → H} {P : Program} {w : World} {base : Nat} {spare : Nat → Bool} {held : Bool}

theorem cells_range {a : Addr} {m k : Nat} {r : List Value} (h : w.cells? base (a.add m) k = some r) (hk : 0 < k) (hs : a.spot = none) : r.length = k ∧ w.rangeAt a.block (a.off + m) r := by
  obtain ⟨_, hl, hc⟩ := World.cells?_some h
  obtain ⟨b, off, sp⟩ := a
  subst hs
  refine ⟨hl, fun j v hv => ?_⟩
  have hj : j < k := by rw [← hl]; exact (List.getElem?_eq_some_iff.1 hv).1
  have h1 := hc j hj
  rw [Addr.add_mid, Addr.add_mid] at h1
  rw [h1]
  exact hv

/-- the rows of a slice that came in: n cells to an element -/
theorem rows_in {t e : TypeId} {fuel k : Nat} {cs : List Value} {x : DataW H × List MemPlace} (ht : P.underlying t = some (.slice e)) (hk : P.cellsOf e = k) (h0 : 0 < k)
    (h : DataW.trod enc P w base spare held fuel t cs = some x) :
    cs = [.slice none 0 0] ∨ ∃ a len cap n, cs = [.slice (some a) len cap] ∧ len ≤ cap ∧ cap ≤ maxLen ∧
      ∀ i, i < len → ∃ r y, a = ⟨a.block, a.off, none⟩ ∧ a.block < w.heap.size ∧ r.length = k ∧ w.rangeAt a.block (a.off + i * k) r ∧ DataW.trod enc P w base spare held n e r = some y := by
  rcases DataW.trod_slice ht h with ⟨h1, _⟩ | ⟨a, len, cap, elems, rest, n, _, rfl, rfl, hb, hl, hm, hlen, hel, hsp, hns⟩
  · exact Or.inl h1
  · refine Or.inr ⟨a, len, cap, n, rfl, hl, hm, fun i hi => ?_⟩
    have each : ∀ j, j < len → ∃ r, w.cells? base (a.add (j * k)) k = some r ∧ ∃ y, DataW.trod enc P w base spare held n e r = some y := fun j hj => by
      have h1 := hel j hj
      rw [List.getElem?_eq_getElem (by omega), Option.bind_eq_some_iff, hk] at h1
      obtain ⟨r, h2, h3⟩ := h1
      exact ⟨r, h2, _, h3⟩
    obtain ⟨r0, hr0, _⟩ := each 0 (by omega)
    have hs : a.spot = none := by
      obtain ⟨_, hl0, hc0⟩ := World.cells?_some hr0
      have h2 := hc0 0 h0
      rw [List.getElem?_eq_getElem (by omega)] at h2
      have h3 := World.cell?_spot h2
      simpa [Addr.add] using h3
    obtain ⟨r, hr, y, hy⟩ := each i hi
    obtain ⟨q1, q2⟩ := cells_range hr h0 hs
    refine ⟨r, y, by obtain ⟨b, off, sp⟩ := a; subst hs; rfl, ?_, q1, q2, hy⟩
    have h2 := World.cells?_block hr h0
    obtain ⟨b, off, sp⟩ := a
    subst hs
    rwa [Addr.add_mid] at h2

theorem range_keep {B b o : Nat} {w' : World} {r : List Value} (h : w.rangeAt b o r) (hB : Below B w w') (hb : b < B) : w'.rangeAt b o r := fun j v hv => by
  have h1 := h j v hv
  unfold World.cell? at h1 ⊢
  rw [hB.block b hb]
  exact h1
end
end Go.Proofs.YtnhbgjgfneoajaaDoor
