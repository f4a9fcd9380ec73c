/-
  The examples of the chapter on wire, which every statement about it checks first: they hold.
-/
import Derived.Test.YtapembonmcolhaaReader
set_option linter.unusedVariables false
namespace Go.Proofs.Ytapembonmcolhaa
open Go.RowKit

theorem aw_get (w : World) : Calls Try.prog 14 #[.string ⟨#[172, 130, 0]⟩] w fun e w' => e = .returned (.tuple #[.int .u64 0, .int .i64 0, .int .i64 2]) ∧ w = w' :=
  get_any ⟨#[172, 130, 0]⟩ w (by decide)
theorem aw_put (w : World) : Calls Try.prog 13 #[.int .u64 300] w fun e w' => e = .returned (.string ⟨#[172, 2]⟩) ∧ Below w.heap.size w w' :=
  Put_any 300 w (by decide)
theorem aw_putString (w : World) : Calls Try.prog 38 #[.string ⟨#[97, 98]⟩] w fun e w' => e = .returned (.string ⟨#[2, 97, 98]⟩) ∧ Below w.heap.size w w' :=
  putString_any ⟨#[97, 98]⟩ w (by decide)
theorem aw_putList (g : Nat) (w : World) (h0 : w.cell? ⟨g, 0, none⟩ = some (.string ⟨#[97, 98]⟩)) (h1 : w.cell? ⟨g, 1, none⟩ = some (.string ⟨#[]⟩)) :
    Calls Try.prog 20 #[.slice (some ⟨g, 0, none⟩) 2 2] w fun e w' => e = .returned (.string ⟨#[2, 2, 97, 98, 0]⟩) ∧ Below w.heap.size w w' :=
  putList_any [⟨#[97, 98]⟩, ⟨#[]⟩] (some ⟨g, 0, none⟩) 2 w (fun i hi => ⟨g, 0, rfl, by
    match i, hi with
    | 0, _ => exact h0
    | 1, _ => exact h1⟩) (by decide) (by decide)
theorem aw_putInts (g : Nat) (w : World) (h0 : w.cell? ⟨g, 0, none⟩ = some (.int .i64 (-1))) (h1 : w.cell? ⟨g, 1, none⟩ = some (.int .i64 2)) :
    Calls Try.prog 40 #[.slice (some ⟨g, 0, none⟩) 2 2] w fun e w' => e = .returned (.string ⟨#[2, 1, 4]⟩) ∧ Below w.heap.size w w' :=
  by
  have e : V.putInts [-1, 2] = [2, 1, 4] := by decide
  have h := putInts_any [-1, 2] (some ⟨g, 0, none⟩) 2 w (fun i hi => ⟨g, 0, rfl, by
    match i, hi with
    | 0, _ => exact h0
    | 1, _ => exact h1⟩) (by decide) (by intro x hx; simp at hx; omega)
  rw [e] at h
  exact h
theorem aw_int (b : Nat) (w : World) (h : IsReader b [5, 1, 97] 0 w) :
    Calls Try.prog 30 #[.pointer (some ⟨b, 0, none⟩)] w fun e w' => e = .returned (.int .i64 (-3)) ∧ IsReader b [1, 97] 0 w' ∧ Keeps b w w' :=
  int_any b [5, 1, 97] 0 w h (by decide) (by decide)
theorem aw_string (b : Nat) (w : World) (h : IsReader b [1, 97] 0 w) :
    Calls Try.prog 32 #[.pointer (some ⟨b, 0, none⟩)] w fun e w' => e = .returned (.string ⟨#[97]⟩) ∧ IsReader b [] 0 w' ∧ Keeps b w w' :=
  string_any b [1, 97] 0 w h (by decide) (by decide)
theorem aw_end (b : Nat) (w : World) (h : IsReader b [] 0 w) :
    Calls Try.prog 35 #[.pointer (some ⟨b, 0, none⟩)] w fun e w' => e = .returned (.int .i64 0) ∧ w = w' :=
  end_any b [] 0 w h (by decide)

set_option maxRecDepth 100000 in
set_option maxHeartbeats 4000000 in
theorem awake_any (w : World) : Calls Try.prog 12 #[] w fun e w' => e = .returned (.bool true) ∧ Below w.heap.size w w' := by
  go_enter Try.func12, Try.ntmps12
  go_wp2_with (go_at_call 14; refine (aw_get _).mono ?_; rintro e w' ⟨rfl, rfl⟩)
  refine (newReader_any _ _).mono ?_
  rintro e w1 ⟨rfl, hw1⟩
  have hR1 : IsReader w.heap.size [5, 1, 97] 0 w1 := by rw [hw1]; exact heap_alloc_new w _
  have hB1 : Below w.heap.size w w1 := by rw [hw1]; exact (Below.refl _ w).alloc (Nat.le_refl _) _
  clear hw1
  go_wp2_with fail
  refine (aw_put _).mono ?_
  rintro e w2 ⟨rfl, hB⟩
  have hR2 := hR1.keep hB
  have hB2 := hB1.trans (hB.mono hB1.size)
  clear hR1 hB1 hB
  go_wp2_with fail
  refine (aw_putString _).mono ?_
  rintro e w3 ⟨rfl, hB⟩
  have hR3 := hR2.keep hB
  have hB3 := hB2.trans (hB.mono hB2.size)
  clear hR2 hB2 hB
  go_wp2_with fail
  refine (aw_putList _ _ (by simp) (by simp)).mono ?_
  rintro e w4 ⟨rfl, hB0⟩
  have hB := ((Below.refl _ w3).alloc (Nat.le_refl _) (.cells #[.string ⟨#[97, 98]⟩, .string ⟨#[]⟩] 9)).trans (hB0.mono (by simp))
  have hR4 := hR3.keep hB
  have hB4 := hB3.trans (hB.mono hB3.size)
  clear hR3 hB3 hB hB0
  go_wp2_with fail
  refine (aw_putInts _ _ (by simp) (by simp)).mono ?_
  rintro e w5 ⟨rfl, hB0⟩
  have hB := ((Below.refl _ w4).alloc (Nat.le_refl _) (.cells #[.int .i64 (-1), .int .i64 2] 3)).trans (hB0.mono (by simp))
  have hR5 := hR4.keep hB
  have hB5 := hB4.trans (hB.mono hB4.size)
  clear hR4 hB4 hB hB0
  go_wp2_with fail
  refine (aw_int _ _ hR5).mono ?_
  rintro e w6 ⟨rfl, hR6, hB⟩
  have hB6 := hB5.trans (hB.below (Nat.le_refl _) hR5.lt)
  clear hR5 hB5 hB
  go_wp2_with fail
  refine (aw_string _ _ hR6).mono ?_
  rintro e w7 ⟨rfl, hR7, hB⟩
  have hB7 := hB6.trans (hB.below (Nat.le_refl _) hR6.lt)
  clear hR6 hB6 hB
  go_wp2_with fail
  refine (aw_end _ _ hR7).mono ?_
  rintro e w8 ⟨rfl, rfl⟩
  go_wp2_with fail
  go_ret
  exact ⟨rfl, hB7⟩

end Go.Proofs.Ytapembonmcolhaa
