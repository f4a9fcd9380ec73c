/-
  The examples of the chapter on views and statuses: they hold.
-/
import Derived.Test.YtnhbgjgfneoajaaDoorBalAwake
import Derived.Deep.MidRow
set_option linter.unusedVariables false
namespace Go.Proofs.YtnhbgjgfneoajaaDoor
open Go.RowKit

set_option maxRecDepth 100000 in
set_option maxHeartbeats 2000000 in
theorem status_ex (t sig : ByteArray) (w : World)
    (T : ∀ w, Calls Tryd.prog 24 #[.int .i64 0, .string ⟨#[]⟩] w fun e w' => e = .returned (.string t) ∧ Below w.heap.size w w')
    (G : ∀ w, Calls Tryd.prog 23 #[.int .i64 2, .int .i64 4, .int .i64 3, .int .i64 4, .string t] w fun e w' => e = .returned (.tuple #[.agg (sg 2 4 3 4 t sig).toArray, .int .i64 0]) ∧ Below w.heap.size w w') :
    Calls Tryd.prog 16 #[.int .i64 2, .int .i64 3, .int .i64 4, .int .i64 0, .string ⟨#[]⟩, .slice none 0 0] w fun e w' => e = .returned (.tuple #[.agg (st12 2 3 4 0 ⟨#[]⟩ 2 4 3 4 t sig).toArray, .int .i64 0]) ∧ Below w.heap.size w w' := by
  have F := fun w => form_ok 4 0 0 0 0 ⟨#[]⟩ ⟨#[]⟩ w (Or.inl rfl)
  go_enter Tryd.func16, Tryd.ntmps16
  go_upto_region 1 with fail
  generalize hw1 : w.alloc _ = w1
  have hA : Blk w.heap.size (st12 0 0 0 0 ⟨#[]⟩ 0 0 0 0 ⟨#[]⟩ ⟨#[]⟩) 36 w1 := by rw [← hw1]; exact Blk.new _ _ w
  have hB : Below w.heap.size w w1 := by rw [← hw1]; exact (Below.refl _ w).alloc (Nat.le_refl _) _
  clear hw1
  obtain ⟨g, hg⟩ : ∃ g, w.heap.size = g := ⟨_, rfl⟩
  rw [hg] at hA ⊢
  go_upto_region 2 with fail
  generalize hw2 : w1.alloc _ = w2
  have hV : Blk w1.heap.size (st12 2 3 4 0 ⟨#[]⟩ 0 0 0 0 ⟨#[]⟩ ⟨#[]⟩) 36 w2 := by rw [← hw2]; exact Blk.new _ _ w1
  have hA2 : Blk g (st12 0 0 0 0 ⟨#[]⟩ 0 0 0 0 ⟨#[]⟩ ⟨#[]⟩) 36 w2 := by rw [← hw2]; exact hA.alloc _
  have hB2 : Below w.heap.size w w2 := by rw [← hw2]; exact hB.alloc hB.size _
  have hgp := hA.lt
  clear hw2 hA hB
  generalize w1.heap.size = p at hV hgp ⊢
  obtain ⟨⟨c0, c1, c2, c3, c4, c5⟩, c6, c7, c8, c9, c10, c11⟩ := st_at hV
  go_wp2_with fail
  refine (F _).mono ?_
  rintro e w3 ⟨rfl, k3⟩
  have hV3 := hV.keep k3
  have hA3 := hA2.keep k3
  have hB3 := hB2.trans (k3.mono hB2.size)
  clear hV hA2 hB2 k3 c0 c1 c2 c3 c4 c5 c6 c7 c8 c9 c10 c11
  go_wp2_with fail
  refine (T _).mono ?_
  rintro e w4 ⟨rfl, k4⟩
  have hV4 := hV3.keep k4
  have hA4 := hA3.keep k4
  have hB4 := hB3.trans (k4.mono hB3.size)
  clear hV3 hA3 hB3 k4
  go_wp2_with fail
  refine (G _).mono ?_
  rintro e w5 ⟨rfl, k5⟩
  have hV5 := hV4.keep k5
  have hA5 := hA4.keep k5
  have hB5 := hB4.trans (k5.mono hB4.size)
  clear hV4 hA4 hB4 k5
  go_upto_region 6 with fail
  generalize hw6 : w5.alloc _ = w6
  have hX6 : Blk w5.heap.size (sg 2 4 3 4 t sig) 34 w6 := by rw [← hw6]; exact Blk.new _ _ w5
  have hV6 : Blk p (st12 2 3 4 0 ⟨#[]⟩ 0 0 0 0 ⟨#[]⟩ ⟨#[]⟩) 36 w6 := by rw [← hw6]; exact hV5.alloc _
  have hA6 : Blk g (st12 0 0 0 0 ⟨#[]⟩ 0 0 0 0 ⟨#[]⟩ ⟨#[]⟩) 36 w6 := by rw [← hw6]; exact hA5.alloc _
  have hB6 : Below w.heap.size w w6 := by rw [← hw6]; exact hB5.alloc hB5.size _
  clear hw6 hV5 hA5 hB5
  generalize w5.heap.size = q at hX6 ⊢
  obtain ⟨d0, d1, d2, d3, d4, d5⟩ := sg_at hX6
  have hth : w6.there p 6 6 := fun j hj => ⟨by
    rw [hV6.cell]
    match j, hj with
    | 0, _ => rfl
    | 1, _ => rfl
    | 2, _ => rfl
    | 3, _ => rfl
    | 4, _ => rfl
    | 5, _ => rfl, hV6.free _⟩
  go_upto_region 9 with (refine wpList_store_mid rfl 34 (.tmp 47) (.tmp 46) rfl p 6 (sg 2 4 3 4 t sig).toArray rfl rfl hth (by kernel_rfl) (by simp [Value.oneCell']) ?_)
  simp only [Act.put]
  generalize hw7 : w6.setCells _ _ _ = w7
  have hV7 : Blk p (st12 2 3 4 0 ⟨#[]⟩ 2 4 3 4 t sig) 36 w7 := by
    rw [← hw7]
    exact (((((hV6.set 6 (.int .i64 2)).set 7 (.int .i64 4)).set 8 (.int .i64 3)).set 9 (.int .i64 4)).set 10 (.string t)).set 11 (.string sig)
  have hA7 : Blk g (st12 0 0 0 0 ⟨#[]⟩ 0 0 0 0 ⟨#[]⟩ ⟨#[]⟩) 36 w7 := by
    rw [← hw7]
    exact (((((hA6.other 6 (.int .i64 2) (c := p) (by omega)).other 7 (.int .i64 4) (c := p) (by omega)).other 8 (.int .i64 3) (c := p) (by omega)).other 9 (.int .i64 4) (c := p) (by omega)).other 10 (.string t) (c := p) (by omega)).other 11 (.string sig) (c := p) (by omega)
  have hwp : w.heap.size ≤ p := by omega
  have hB7 : Below w.heap.size w w7 := by
    rw [← hw7]
    exact (((((hB6.setCell (p := ⟨p, 6, none⟩) hwp (.int .i64 2)).setCell (p := ⟨p, 7, none⟩) hwp (.int .i64 4)).setCell (p := ⟨p, 8, none⟩) hwp (.int .i64 3)).setCell (p := ⟨p, 9, none⟩) hwp (.int .i64 4)).setCell (p := ⟨p, 10, none⟩) hwp (.string t)).setCell (p := ⟨p, 11, none⟩) hwp (.string sig)
  clear hw7 hV6 hA6 hB6 hth d0 d1 d2 d3 d4 d5 hX6
  obtain ⟨⟨c0, c1, c2, c3, c4, c5⟩, c6, c7, c8, c9, c10, c11⟩ := st_at hV7
  go_wp2_with (refine wpList_store_row rfl 36 (.tmp 12) (.tmp 48) rfl g (st12 2 3 4 0 ⟨#[]⟩ 2 4 3 4 t sig).toArray rfl rfl 36 _ hA7 (by kernel_rfl) (by kernel_rfl) (by simp [Value.oneCell']) ?_)
  exact bodyPost_ret (results_row_tmp rfl _ _ g 36 (st12 2 3 4 0 ⟨#[]⟩ 2 4 3 4 t sig).toArray (0, 0) _ rfl (setRow_heap _ _ _ _ _ _ hA7) Tryd.underlying36 rfl (by kernel_rfl)) rfl ⟨rfl, Dg.Below.setRow _ hB7 (by omega)⟩

set_option maxRecDepth 100000 in
set_option maxHeartbeats 2000000 in
theorem balAwake_any (w : World) : Calls Tryd.prog 6 #[] w fun e w' => e = .returned (.bool true) ∧ Below w.heap.size w w' := by
  obtain ⟨t, ht, T⟩ := text_00
  have hr : InRange 2 4 3 4 := by unfold InRange; omega
  have G := fun w => sign_any 2 4 3 4 t w hr ht
  have V := fun w => verify_any 2 4 3 4 t (sigOf 2 4 3 4 t) w hr ht
  rw [show ((sigOf 2 4 3 4 t).toList == (sigOf 2 4 3 4 t).toList) = true by simp] at V
  generalize sigOf 2 4 3 4 t = sig at G V
  have L1 := fun w => leader_any 1 3 w
  have L2 := fun w => leader_any 5 3 w
  have N1 := fun w => next_any 5 1 3 w
  rw [show leadV 1 3 = (0, 0) by decide] at L1
  rw [show leadV 5 3 = (1, 0) by decide] at L2
  rw [show nextV 5 1 3 = (8, 0) by decide] at N1
  have R := fun w => status_ex t sig w T G
  go_enter Tryd.func6, Tryd.ntmps6
  go_wp2_with fail
  refine (L1 _).mono ?_
  rintro e w' ⟨rfl, rfl⟩
  go_wp2_with fail
  refine (L2 _).mono ?_
  rintro e w' ⟨rfl, rfl⟩
  go_wp2_with fail
  refine (N1 _).mono ?_
  rintro e w' ⟨rfl, rfl⟩
  go_wp2_with fail
  refine (R _).mono ?_
  rintro e w1 ⟨rfl, k1⟩
  go_upto_region 5 with fail
  generalize hw2 : w1.alloc _ = w2
  have hX : Blk w1.heap.size (st12 2 3 4 0 ⟨#[]⟩ 2 4 3 4 t sig) 36 w2 := by rw [← hw2]; exact Blk.new _ _ w1
  have hB2 : Below w'.heap.size w' w2 := by rw [← hw2]; exact k1.alloc k1.size _
  clear hw2 k1
  generalize w1.heap.size = g at hX ⊢
  obtain ⟨⟨c0, c1, c2, c3, c4, c5⟩, c6, c7, c8, c9, c10, c11⟩ := st_at hX
  go_upto_region 6 with fail
  clear c0 c1 c2 c3 c4 c5 c6 c7 c8 c9 c10 c11
  generalize hw3 : w2.alloc _ = w3
  have hX3 : Blk g (st12 2 3 4 0 ⟨#[]⟩ 2 4 3 4 t sig) 36 w3 := by rw [← hw3]; exact hX.alloc _
  have hY3 : Blk w2.heap.size (st12 2 3 4 0 ⟨#[]⟩ 2 4 3 4 t sig) 36 w3 := by rw [← hw3]; exact Blk.new _ _ w2
  have hB3 : Below w'.heap.size w' w3 := by rw [← hw3]; exact hB2.alloc hB2.size _
  have hgl := hX.lt
  have hwl := hB2.size
  clear hw3 hX hB2
  generalize w2.heap.size = g2 at hY3 hgl hwl ⊢
  have c2 : w3.cell? ⟨g2, 2, none⟩ = some (.int .i64 4) := hY3.cell 2
  have f2 := hY3.free 2
  go_upto_region 7 with fail
  clear c2 f2
  generalize hw4 : w3.setCell _ _ = w4
  have hY4 : Blk g2 (st12 2 3 5 0 ⟨#[]⟩ 2 4 3 4 t sig) 36 w4 := by rw [← hw4]; exact hY3.set 2 _
  have hX4 : Blk g (st12 2 3 4 0 ⟨#[]⟩ 2 4 3 4 t sig) 36 w4 := by rw [← hw4]; exact hX3.other _ _ (by omega)
  have hB4 : Below w'.heap.size w' w4 := by rw [← hw4]; exact hB3.setCell (p := ⟨g2, 2, none⟩) hwl _
  clear hw4 hX3 hY3 hB3
  obtain ⟨⟨c0, c1, c2, c3, c4, c5⟩, c6, c7, c8, c9, c10, c11⟩ := st_at hX4
  go_wp2_with fail
  refine (right_yes t sig _ T V).mono ?_
  rintro e w5 ⟨rfl, k5⟩
  have hY5 := hY4.keep k5
  have hB5 := hB4.trans (k5.mono hB4.size)
  clear hX4 hY4 hB4 k5 c0 c1 c2 c3 c4 c5 c6 c7 c8 c9 c10 c11
  obtain ⟨⟨c0, c1, c2, c3, c4, c5⟩, c6, c7, c8, c9, c10, c11⟩ := st_at hY5
  go_wp2_with fail
  refine (right_no t sig _).mono ?_
  rintro e w6 ⟨rfl, k6⟩
  go_wp2_with fail
  go_ret
  exact ⟨rfl, hB5.trans (k6.mono hB5.size)⟩

end Go.Proofs.YtnhbgjgfneoajaaDoor
