/-
  The examples of the chapter on views and statuses: they hold.
-/
import Derived.Test.YtnhbgjgfneoajaaDoorNext
import Derived.Test.YtnhbgjgfneoajaaDoorSign
set_option linter.unusedVariables false
namespace Go.Proofs.YtnhbgjgfneoajaaDoor
open Go.RowKit

theorem cells2 (w' : World) (p q : ByteArray) (b : Nat) (h : w'.heap[b]? = some (.cells #[.string p, .string q] 9 (0, 0))) : Cells w' (some ⟨b, 0, none⟩) 2 (strAt [p, q]) := by
  intro i hi
  refine ⟨b, 0, rfl, ?_⟩
  rw [Lib.cell_of_heap h]
  match i, hi with
  | 0, _ => rfl
  | 1, _ => rfl

set_option maxRecDepth 100000 in
set_option maxHeartbeats 1000000 in
theorem of_two (p q : ByteArray) (b : Nat) (w : World) (h : w.heap[b]? = some (.cells #[.string p, .string q] 9 (0, 0))) (hp : p.size + q.size ≤ 100000) :
    Calls Tryd.prog 28 #[.slice (some ⟨b, 0, none⟩) 2 2] w fun e w' => e = .returned (.string (S (Dg.D.hx (Dg.D.sumAll (V.putList [L p, L q])) 32))) ∧ Below w.heap.size w w' := by
  have ht : tot [p, q] = p.size + q.size := by simp [tot]
  have P1 := putList_any [p, q] (some ⟨b, 0, none⟩) 2 w (cells2 w p q b h) (by simp) (by omega)
  have hl : (V.putList [L p, L q]).length ≤ 10 + 10 * 2 + (p.size + q.size) := by
    have h1 := preS_length [p, q] 2
    have h2 : preS [p, q] 2 = V.putList [L p, L q] := preS_all [p, q]
    rw [h2, ht] at h1
    exact h1
  have P2 := fun u => Dg.hex_any (S (V.putList [L p, L q])) u (by rw [S_size]; omega)
  have P2' : ∀ u, Calls Tryd.prog 30 #[.string (S (V.putList [L p, L q]))] u fun e w' => e = .returned (.string (S (Dg.D.hx (Dg.D.sumAll (V.putList [L p, L q])) 32))) ∧ Below u.heap.size u w' := fun u => P2 u
  have P1' : Calls Tryd.prog 35 #[.slice (some ⟨b, 0, none⟩) 2 2] w fun e w' => e = .returned (.string (S (V.putList [L p, L q]))) ∧ Below w.heap.size w w' := P1
  clear P1 P2 hl ht hp h
  generalize S (Dg.D.hx (Dg.D.sumAll (V.putList [L p, L q])) 32) = r at P2' ⊢
  generalize S (V.putList [L p, L q]) = z at P1' P2'
  go_enter Tryd.func28, Tryd.ntmps28
  go_wp2_with fail
  refine P1'.mono ?_
  rintro e w1 ⟨rfl, k1⟩
  go_wp2_with fail
  refine (P2' _).mono ?_
  rintro e w2 ⟨rfl, k2⟩
  go_wp2_with fail
  go_ret
  exact ⟨rfl, k1.trans (k2.mono k1.size)⟩

set_option maxRecDepth 100000 in
set_option maxHeartbeats 1000000 in
/-- the text of a status without a lock -/
theorem text_00 : ∃ t : ByteArray, t.size ≤ 64 ∧ ∀ w, Calls Tryd.prog 24 #[.int .i64 0, .string ⟨#[]⟩] w fun e w' => e = .returned (.string t) ∧ Below w.heap.size w w' := by
  have P1 := fun w => Tryd.strconv_Itoa_small 0 (by omega) w
  have P2 := fun w => Dg.hex_any ⟨#[]⟩ w (by decide)
  have hq : (Dg.S (Dg.D.hx (Dg.D.sumAll (ByteArray.mk #[]).data.toList) 32)).size = 64 := by
    rw [Dg.S_size, Dg.D.hx_length]
  generalize Dg.S (Dg.D.hx (Dg.D.sumAll (ByteArray.mk #[]).data.toList) 32) = q at P2 hq
  have hp : (ByteArray.mk (Lib.decDigits 0).toArray).size ≤ 100 := by decide +kernel
  generalize ByteArray.mk (Lib.decDigits 0).toArray = p at P1 hp
  have P3 := fun u b h => of_two p q b u h (by omega)
  have hs : (S (Dg.D.hx (Dg.D.sumAll (V.putList [L p, L q])) 32)).size ≤ 64 := by rw [S_size, Dg.D.hx_length]; omega
  generalize S (Dg.D.hx (Dg.D.sumAll (V.putList [L p, L q])) 32) = r at P3 hs
  refine ⟨r, hs, fun w => ?_⟩
  go_enter Tryd.func24, Tryd.ntmps24
  go_wp2_with fail
  refine (P1 _).mono ?_
  rintro e w1 ⟨rfl, rfl⟩
  go_wp2_with fail
  refine (P2 _).mono ?_
  rintro e w2 ⟨rfl, k2⟩
  go_wp2_with fail
  refine (P3 _ _ (heap_alloc_new _ _)).mono ?_
  rintro e w3 ⟨rfl, k3⟩
  go_wp2_with fail
  go_ret
  exact ⟨rfl, (k2.alloc k2.size _).trans (k3.mono (k2.alloc k2.size _).size)⟩

abbrev st12 (a v n l : Int) (d : ByteArray) (a2 k2 v2 n2 : Int) (d2 s2 : ByteArray) : List Value :=
  [.int .i64 a, .int .i64 v, .int .i64 n, .int .i64 l, .string d, .slice none 0 0, .int .i64 a2, .int .i64 k2, .int .i64 v2, .int .i64 n2, .string d2, .string s2]

theorem st_at {g : Nat} {a v n l : Int} {d : ByteArray} {a2 k2 v2 n2 : Int} {d2 s2 : ByteArray} {w : World} (h : Blk g (st12 a v n l d a2 k2 v2 n2 d2 s2) 36 w) :
    (w.cell? ⟨g, 0, none⟩ = some (.int .i64 a) ∧ w.cell? ⟨g, 1, none⟩ = some (.int .i64 v) ∧ w.cell? ⟨g, 2, none⟩ = some (.int .i64 n) ∧ w.cell? ⟨g, 3, none⟩ = some (.int .i64 l) ∧ w.cell? ⟨g, 4, none⟩ = some (.string d) ∧ w.cell? ⟨g, 5, none⟩ = some (.slice none 0 0)) ∧
      (w.cell? ⟨g, 6, none⟩ = some (.int .i64 a2) ∧ w.cell? ⟨g, 7, none⟩ = some (.int .i64 k2) ∧ w.cell? ⟨g, 8, none⟩ = some (.int .i64 v2) ∧ w.cell? ⟨g, 9, none⟩ = some (.int .i64 n2) ∧ w.cell? ⟨g, 10, none⟩ = some (.string d2) ∧ w.cell? ⟨g, 11, none⟩ = some (.string s2)) :=
  ⟨⟨h.cell 0, h.cell 1, h.cell 2, h.cell 3, h.cell 4, h.cell 5⟩, h.cell 6, h.cell 7, h.cell 8, h.cell 9, h.cell 10, h.cell 11⟩

set_option maxRecDepth 100000 in
set_option maxHeartbeats 1000000 in
theorem form_ok (n : Int) (a2 k2 v2 n2 : Int) (d2 s2 : ByteArray) (w : World) (hn : n = 4 ∨ n = 5) :
    Calls Tryd.prog 22 #[.agg (st12 2 3 n 0 ⟨#[]⟩ a2 k2 v2 n2 d2 s2).toArray] w fun e w' => e = .returned (.int .i64 0) ∧ Below w.heap.size w w' := by
  have h1 : 0 ≤ n := by omega
  have h2 : n ≤ 2147483647 := by omega
  have Q1 := fun w => number_any 3 w
  have Q2 := fun w => number_any n w
  have Q3 := fun w => number_any 0 w
  have hb : (decide (0 ≤ n) && decide (n ≤ 2147483647)) = true := by simp [h1, h2]
  rw [hb] at Q2
  clear hb
  go_enter Tryd.func22, Tryd.ntmps22
  go_upto_region 1 with fail
  generalize hw1 : w.alloc _ = w1
  have hA : Blk w.heap.size (st12 2 3 n 0 ⟨#[]⟩ a2 k2 v2 n2 d2 s2) 36 w1 := by rw [← hw1]; exact Blk.new _ _ w
  have hB : Below w.heap.size w w1 := by rw [← hw1]; exact (Below.refl _ w).alloc (Nat.le_refl _) _
  clear hw1
  obtain ⟨g, hg⟩ : ∃ g, w.heap.size = g := ⟨_, rfl⟩
  rw [hg] at hA ⊢
  obtain ⟨⟨c0, c1, c2, c3, c4, c5⟩, _⟩ := st_at hA
  clear hA
  go_wp2_with fail
  refine (Q1 _).mono ?_
  rintro e w' ⟨rfl, rfl⟩
  go_wp2_with fail
  refine (Q2 _).mono ?_
  rintro e w' ⟨rfl, rfl⟩
  go_wp2_with fail
  refine (Q3 _).mono ?_
  rintro e w' ⟨rfl, rfl⟩
  go_wp2_with fail
  go_ret
  exact ⟨rfl, hB⟩

theorem st_cells {g : Nat} {a v n l : Int} {d : ByteArray} {a2 k2 v2 n2 : Int} {d2 s2 : ByteArray} {w : World} (h : Blk g (st12 a v n l d a2 k2 v2 n2 d2 s2) 36 w) :
    ((∀ x : Gr w, x.u.cell? ⟨g, 0, none⟩ = some (.int .i64 a)) ∧ (∀ x : Gr w, x.u.cell? ⟨g, 1, none⟩ = some (.int .i64 v)) ∧ (∀ x : Gr w, x.u.cell? ⟨g, 2, none⟩ = some (.int .i64 n)) ∧ (∀ x : Gr w, x.u.cell? ⟨g, 3, none⟩ = some (.int .i64 l)) ∧
      (∀ x : Gr w, x.u.cell? ⟨g, 4, none⟩ = some (.string d)) ∧ (∀ x : Gr w, x.u.cell? ⟨g, 5, none⟩ = some (.slice none 0 0))) ∧
    ((∀ x : Gr w, x.u.cell? ⟨g, 6, none⟩ = some (.int .i64 a2)) ∧ (∀ x : Gr w, x.u.cell? ⟨g, 7, none⟩ = some (.int .i64 k2)) ∧ (∀ x : Gr w, x.u.cell? ⟨g, 8, none⟩ = some (.int .i64 v2)) ∧ (∀ x : Gr w, x.u.cell? ⟨g, 9, none⟩ = some (.int .i64 n2)) ∧
      (∀ x : Gr w, x.u.cell? ⟨g, 10, none⟩ = some (.string d2)) ∧ (∀ x : Gr w, x.u.cell? ⟨g, 11, none⟩ = some (.string s2))) :=
  ⟨⟨fun x => x.cell (h.cell 0), fun x => x.cell (h.cell 1), fun x => x.cell (h.cell 2), fun x => x.cell (h.cell 3), fun x => x.cell (h.cell 4), fun x => x.cell (h.cell 5)⟩,
    fun x => x.cell (h.cell 6), fun x => x.cell (h.cell 7), fun x => x.cell (h.cell 8), fun x => x.cell (h.cell 9), fun x => x.cell (h.cell 10), fun x => x.cell (h.cell 11)⟩

set_option maxRecDepth 100000 in
set_option maxHeartbeats 2000000 in
theorem right_yes (t sig : ByteArray) (w : World)
    (T : ∀ w, Calls Tryd.prog 24 #[.int .i64 0, .string ⟨#[]⟩] w fun e w' => e = .returned (.string t) ∧ Below w.heap.size w w')
    (V : ∀ w, Calls Tryd.prog 25 #[.agg (sg 2 4 3 4 t sig).toArray] w fun e w' => e = .returned (.bool true) ∧ Below w.heap.size w w') :
    Calls Tryd.prog 17 #[.agg (st12 2 3 4 0 ⟨#[]⟩ 2 4 3 4 t sig).toArray] w fun e w' => e = .returned (.bool true) ∧ Below w.heap.size w w' := by
  have F := fun w => form_ok 4 2 4 3 4 t sig w (Or.inl rfl)
  go_enter Tryd.func17, Tryd.ntmps17
  go_upto_region 1 with fail
  generalize hw1 : w.alloc _ = w1
  have hA : Blk w.heap.size (st12 2 3 4 0 ⟨#[]⟩ 2 4 3 4 t sig) 36 w1 := by rw [← hw1]; exact Blk.new _ _ w
  have hB : Below w.heap.size w w1 := by rw [← hw1]; exact (Below.refl _ w).alloc (Nat.le_refl _) _
  clear hw1
  obtain ⟨g, hg⟩ : ∃ g, w.heap.size = g := ⟨_, rfl⟩
  rw [hg] at hA ⊢
  obtain ⟨_, c6, c7, c8, c9, c10, c11⟩ := st_at hA
  go_upto_region 2 with fail
  clear c6 c7 c8 c9 c10 c11
  generalize hw2 : w1.alloc _ = w2
  have hA2 : Blk g (st12 2 3 4 0 ⟨#[]⟩ 2 4 3 4 t sig) 36 w2 := by rw [← hw2]; exact hA.alloc _
  have hX2 : Blk w1.heap.size (sg 2 4 3 4 t sig) 34 w2 := by rw [← hw2]; exact Blk.new _ _ w1
  have hB2 : Below w.heap.size w w2 := by rw [← hw2]; exact hB.alloc hB.size _
  clear hw2 hA hB
  generalize w1.heap.size = g2 at hX2 ⊢
  obtain ⟨⟨c0, c1, c2, c3, c4, c5⟩, c6, c7, c8, c9, c10, c11⟩ := st_cells hA2
  obtain ⟨d0, d1, d2, d3, d4, d5⟩ := sg_cells hX2
  refine region_grow (by kernel_rfl) (by kernel_rfl) ?_
  repeat (first | go_big_quiet_skip | (go_big_quiet_want; go_big_quiet_op; first | go_big_quiet_on | (apply Exists.intro; refine And.intro ?_ ?_; (focus (intro gx; first | (go_at_call 22; exact grow_of gx (F _)) | (go_at_call 24; exact grow_of gx (T _)) | (go_at_call 25; exact grow_of gx (V _)))); go_big_quiet_on)))
  refine wpQuiet_nil ?_
  intro _ hgx
  obtain ⟨gx, hgx⟩ := hgx
  subst hgx
  go_wp2_with fail
  go_ret
  exact ⟨rfl, hB2.trans (gx.below.mono hB2.size)⟩

set_option maxRecDepth 100000 in
set_option maxHeartbeats 2000000 in
theorem right_no (t sig : ByteArray) (w : World) :
    Calls Tryd.prog 17 #[.agg (st12 2 3 5 0 ⟨#[]⟩ 2 4 3 4 t sig).toArray] w fun e w' => e = .returned (.bool false) ∧ Below w.heap.size w w' := by
  have F := fun w => form_ok 5 2 4 3 4 t sig w (Or.inr rfl)
  go_enter Tryd.func17, Tryd.ntmps17
  go_upto_region 1 with fail
  generalize hw1 : w.alloc _ = w1
  have hA : Blk w.heap.size (st12 2 3 5 0 ⟨#[]⟩ 2 4 3 4 t sig) 36 w1 := by rw [← hw1]; exact Blk.new _ _ w
  have hB : Below w.heap.size w w1 := by rw [← hw1]; exact (Below.refl _ w).alloc (Nat.le_refl _) _
  clear hw1
  obtain ⟨g, hg⟩ : ∃ g, w.heap.size = g := ⟨_, rfl⟩
  rw [hg] at hA ⊢
  obtain ⟨_, c6, c7, c8, c9, c10, c11⟩ := st_at hA
  go_upto_region 2 with fail
  clear c6 c7 c8 c9 c10 c11
  generalize hw2 : w1.alloc _ = w2
  have hA2 : Blk g (st12 2 3 5 0 ⟨#[]⟩ 2 4 3 4 t sig) 36 w2 := by rw [← hw2]; exact hA.alloc _
  have hX2 : Blk w1.heap.size (sg 2 4 3 4 t sig) 34 w2 := by rw [← hw2]; exact Blk.new _ _ w1
  have hB2 : Below w.heap.size w w2 := by rw [← hw2]; exact hB.alloc hB.size _
  clear hw2 hA hB
  generalize w1.heap.size = g2 at hX2 ⊢
  obtain ⟨⟨c0, c1, c2, c3, c4, c5⟩, c6, c7, c8, c9, c10, c11⟩ := st_cells hA2
  obtain ⟨d0, d1, d2, d3, d4, d5⟩ := sg_cells hX2
  refine region_grow (by kernel_rfl) (by kernel_rfl) ?_
  repeat (first | go_big_quiet_skip | (go_big_quiet_want; go_big_quiet_op; first | go_big_quiet_on | (apply Exists.intro; refine And.intro ?_ ?_; (focus (intro gx; go_at_call 22; exact grow_of gx (F _))); go_big_quiet_on)))
  refine wpQuiet_nil ?_
  intro _ hgx
  obtain ⟨gx, hgx⟩ := hgx
  subst hgx
  go_wp2_with fail
  go_ret
  exact ⟨rfl, hB2.trans (gx.below.mono hB2.size)⟩

end Go.Proofs.YtnhbgjgfneoajaaDoor
