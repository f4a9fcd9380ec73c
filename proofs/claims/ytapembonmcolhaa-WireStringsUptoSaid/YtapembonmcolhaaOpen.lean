/-
  Arguments in memory, opened: slices of integers and of strings.
-/
import Derived.Test.YtapembonmcolhaaPutList
import Derived.ProofKit
import Derived.SliceStrings
set_option linter.unusedVariables false
namespace Go.Proofs.Ytapembonmcolhaa
open Go.ChangeShapes Go.WideShapes Go.ChangeAt Go.RowKit

/-- a slice that came in, with its elements: its head, its capacity, the elements -/
def IsInts (w : World) (v : Value) (x : Option Addr × Nat × List Int) : Prop := v = .slice x.1 x.2.2.length x.2.1 ∧ Cells w x.1 x.2.2.length (intAt x.2.2) ∧ Fits x.2.2 ∧ x.2.2.length ≤ maxLen
def IsStrs (w : World) (v : Value) (x : Option Addr × Nat × List ByteArray) : Prop := v = .slice x.1 x.2.2.length x.2.1 ∧ Cells w x.1 x.2.2.length (strAt x.2.2) ∧ (∀ s ∈ x.2.2, s.size ≤ maxLen) ∧ x.2.2.length ≤ maxLen

theorem cells_row {w : World} {x : Addr} {n : Nat} {f : Nat → Value} (h : ∀ i, i < n → w.cell? (x.add i) = some (f i)) : Cells w (some x) n f := by
  intro i hi
  have h1 := h i hi
  obtain ⟨b, off, sp⟩ := x
  have hsp : sp = none := by
    have h2 := World.cell?_spot (h 0 (by omega))
    simpa [Addr.add] using h2
  subst hsp
  refine ⟨b, off, rfl, ?_⟩
  rw [← h1]
  by_cases h0 : i = 0
  · subst h0; simp [Addr.add]
  · simp [Addr.add, h0]

theorem openInts {H : Type} {enc : TypeId × Value → H} {W : World} {base : Nat} {v : Value} {d : DataW H} {p : List MemPlace} (hv : Value.okWide Try.prog W .any base 39 v)
    (h : DataW.Trod enc Try.prog W 0 (fun _ => true) true 39 v d p) : ∃ x : Option Addr × Nat × List Int, IsInts W v x := by
  obtain ⟨a0, len0, cap0, rfl⟩ := okWide_slice Try.underlying39 hv
  obtain ⟨fuel, hf⟩ := h
  rcases open_ints Try.underlying39 Try.underlying3 (by kernel_rfl) hf with ⟨hcs, _⟩ | ⟨x, l, c, zs, hcs, _, hl, hm, hz, _, hcell, hwz⟩
  · simp [Value.cells] at hcs
    obtain ⟨rfl, rfl, rfl⟩ := hcs
    exact ⟨(none, 0, []), rfl, fun i hi => absurd hi (by simp), fun x hx => by simp at hx, by simp⟩
  · simp [Value.cells] at hcs
    obtain ⟨rfl, rfl, rfl⟩ := hcs
    have hz' : zs.length = cap0 := by simpa using hz
    have htl : (zs.take len0).length = len0 := by rw [List.length_take]; omega
    refine ⟨(some x, cap0, zs.take len0), by simp [htl], ?_, ?_, by rw [htl]; omega⟩
    · refine cells_row (fun i hi => ?_)
      simp only [htl] at hi
      rw [hcell i (by omega)]
      simp [intAt, hi]
    · intro y hy
      have := hwz y (List.mem_of_mem_take hy)
      simpa [Lit.wf, IntKind.min, IntKind.max, IntKind.signed, IntKind.bits] using this

theorem openStrs {H : Type} {enc : TypeId × Value → H} {W : World} {base : Nat} {v : Value} {d : DataW H} {p : List MemPlace} (hv : Value.okWide Try.prog W .any base 32 v)
    (h : DataW.Trod enc Try.prog W 0 (fun _ => true) true 32 v d p) : ∃ x : Option Addr × Nat × List ByteArray, IsStrs W v x := by
  obtain ⟨a0, len0, cap0, rfl⟩ := okWide_slice Try.underlying32 hv
  obtain ⟨fuel, hf⟩ := h
  rcases open_strings Try.underlying32 Try.underlying9 (by kernel_rfl) hf with ⟨hcs, _⟩ | ⟨x, l, c, zs, hcs, _, hl, hm, hz, _, hcell, hwz⟩
  · simp [Value.cells] at hcs
    obtain ⟨rfl, rfl, rfl⟩ := hcs
    exact ⟨(none, 0, []), rfl, fun i hi => absurd hi (by simp), fun x hx => by simp at hx, by simp⟩
  · simp [Value.cells] at hcs
    obtain ⟨rfl, rfl, rfl⟩ := hcs
    have hz' : zs.length = cap0 := by simpa using hz
    have htl : (zs.take len0).length = len0 := by rw [List.length_take]; omega
    refine ⟨(some x, cap0, zs.take len0), by simp [htl], ?_, ?_, by rw [htl]; omega⟩
    · refine cells_row (fun i hi => ?_)
      simp only [htl] at hi
      rw [hcell i (by omega)]
      simp [strAt, hi]
    · intro y hy
      exact hwz y (List.mem_of_mem_take hy)

end Go.Proofs.Ytapembonmcolhaa
