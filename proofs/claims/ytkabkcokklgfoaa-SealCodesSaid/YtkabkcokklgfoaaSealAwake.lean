/-
  The examples of the chapter on signed statements: they hold.
-/
import Derived.Test.YtkabkcokklgfoaaSign
set_option linter.unusedVariables false
namespace Go.Proofs.Ytkabkcokklgfoaa
open Go.RowKit

abbrev tx : ByteArray := ⟨#[120]⟩
abbrev ty : ByteArray := ⟨#[121]⟩

set_option maxRecDepth 100000 in
theorem votes3 (w : World) : Calls Try.prog 26 #[.int .i64 3] w fun e w' => e = .returned (.bool true) ∧ w' = w := by
  go_enter Try.func26, Try.ntmps26
  go_wp2_with fail
  go_ret
  exact ⟨rfl, rfl⟩
set_option maxRecDepth 100000 in
theorem votes1 (w : World) : Calls Try.prog 26 #[.int .i64 1] w fun e w' => e = .returned (.bool false) ∧ w' = w := by
  go_enter Try.func26, Try.ntmps26
  go_wp2_with fail
  go_ret
  exact ⟨rfl, rfl⟩

theorem two_new (w : World) (A B : List Value) (T : TypeId) :
    Blk w.heap.size A T ((w.alloc (.cells A.toArray T)).alloc (.cells B.toArray T)) ∧ Blk (w.heap.size + 1) B T ((w.alloc (.cells A.toArray T)).alloc (.cells B.toArray T)) ∧
      Below w.heap.size w ((w.alloc (.cells A.toArray T)).alloc (.cells B.toArray T)) :=
  ⟨(Blk.new A T w).alloc _, heap_alloc2_new w _ _, ((Below.refl _ w).alloc (Nat.le_refl _) _).alloc (by simp) _⟩

set_option maxRecDepth 100000 in
set_option maxHeartbeats 1000000 in
theorem conflict_yes (sa sb : ByteArray) (w : World)
    (Pa : ∀ u, Calls Try.prog 11 #[.agg (sg 2 3 3 0 tx sa).toArray] u fun e w' => e = .returned (.bool true) ∧ Below u.heap.size u w')
    (Pb : ∀ u, Calls Try.prog 11 #[.agg (sg 2 3 3 0 ty sb).toArray] u fun e w' => e = .returned (.bool true) ∧ Below u.heap.size u w') :
    Calls Try.prog 12 #[.agg (sg 2 3 3 0 tx sa).toArray, .agg (sg 2 3 3 0 ty sb).toArray] w fun e w' => e = .returned (.bool true) ∧ Below w.heap.size w w' := by
  have N1 := two_new w (sg 2 3 3 0 tx sa) (sg 2 3 3 0 ty sb) 24
  go_enter Try.func12, Try.ntmps12
  go_upto_region 1 with fail
  generalize World.alloc _ _ = w1 at N1 ⊢
  obtain ⟨hX, hY, hB⟩ := N1
  obtain ⟨g, hg⟩ : ∃ g, w.heap.size = g := ⟨_, rfl⟩
  rw [hg] at hX hY ⊢
  obtain ⟨a0, a1, a2, a3, a4, a5⟩ := sg_at hX
  obtain ⟨b0, b1, b2, b3, b4, b5⟩ := sg_at hY
  go_wp2_with fail
  refine (votes3 _).mono ?_
  rintro e w' ⟨rfl, rfl⟩
  go_wp2_with fail
  refine (votes3 _).mono ?_
  rintro e w' ⟨rfl, rfl⟩
  go_wp2_with fail
  refine (Pa _).mono ?_
  rintro e w2 ⟨rfl, k2⟩
  have hB2 := hB.trans (k2.mono hB.size)
  have hY2 := hY.keep k2
  clear a0 a1 a2 a3 a4 a5 b0 b1 b2 b3 b4 b5
  obtain ⟨b0, b1, b2, b3, b4, b5⟩ := sg_at hY2
  go_wp2_with fail
  refine (Pb _).mono ?_
  rintro e w3 ⟨rfl, k3⟩
  go_wp2_with fail
  go_ret
  exact ⟨rfl, hB2.trans (k3.mono hB2.size)⟩

set_option maxRecDepth 100000 in
set_option maxHeartbeats 1000000 in
theorem conflict_kind (sa sb : ByteArray) (w : World) :
    Calls Try.prog 12 #[.agg (sg 2 3 3 0 tx sa).toArray, .agg (sg 2 1 3 0 ty sb).toArray] w fun e w' => e = .returned (.bool false) ∧ Below w.heap.size w w' := by
  have N1 := two_new w (sg 2 3 3 0 tx sa) (sg 2 1 3 0 ty sb) 24
  go_enter Try.func12, Try.ntmps12
  go_upto_region 1 with fail
  generalize World.alloc _ _ = w1 at N1 ⊢
  obtain ⟨hX, hY, hB⟩ := N1
  obtain ⟨g, hg⟩ : ∃ g, w.heap.size = g := ⟨_, rfl⟩
  rw [hg] at hX hY ⊢
  obtain ⟨a0, a1, a2, a3, a4, a5⟩ := sg_at hX
  obtain ⟨b0, b1, b2, b3, b4, b5⟩ := sg_at hY
  go_wp2_with fail
  refine (votes3 _).mono ?_
  rintro e w' ⟨rfl, rfl⟩
  go_wp2_with fail
  refine (votes1 _).mono ?_
  rintro e w' ⟨rfl, rfl⟩
  go_wp2_with fail
  go_ret
  exact ⟨rfl, hB⟩

set_option maxRecDepth 100000 in
set_option maxHeartbeats 1000000 in
theorem conflict_slot (sa sb : ByteArray) (w : World) :
    Calls Try.prog 12 #[.agg (sg 2 3 3 0 tx sa).toArray, .agg (sg 2 3 3 1 ty sb).toArray] w fun e w' => e = .returned (.bool false) ∧ Below w.heap.size w w' := by
  have N1 := two_new w (sg 2 3 3 0 tx sa) (sg 2 3 3 1 ty sb) 24
  go_enter Try.func12, Try.ntmps12
  go_upto_region 1 with fail
  generalize World.alloc _ _ = w1 at N1 ⊢
  obtain ⟨hX, hY, hB⟩ := N1
  obtain ⟨g, hg⟩ : ∃ g, w.heap.size = g := ⟨_, rfl⟩
  rw [hg] at hX hY ⊢
  obtain ⟨a0, a1, a2, a3, a4, a5⟩ := sg_at hX
  obtain ⟨b0, b1, b2, b3, b4, b5⟩ := sg_at hY
  go_wp2_with fail
  go_ret
  exact ⟨rfl, hB⟩

end Go.Proofs.Ytkabkcokklgfoaa
