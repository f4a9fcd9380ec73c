/-
  Signing a statement, and its check.
-/
import Derived.Test.YtnhbgjgfneoajaaDoorSeal
import Derived.Laws.ResultCell
set_option linter.unusedVariables false
namespace Go.Proofs.YtnhbgjgfneoajaaDoor
open Go.RowKit

theorem results_row_tmp {P : Program} {fn : Func} {p u : Tmp} {ty : TypeId} (h : fn.results = #[.cell p ty, .tmp u]) (tmps : Array Value) (w : World) (g : Nat) (t : TypeId) (cs : Array Value) (fr : Nat × Nat) (d : TypeDesc)
    (hp : tmps.getD p undef = .pointer (some ⟨g, 0, none⟩)) (hg : w.heap[g]? = some (.cells cs t fr))
    (hu : P.underlying ty = some d) (hd : (match d with | .struct _ | .array _ _ => true | _ => false) = true) (hi : (P.info? ty).map (·.size) = some cs.size) :
    (results fn tmps).run P w = .ok (.tuple #[.agg cs, tmps.getD u undef]) w := by
  rw [results_cell_tmp h]
  have hp' : tmps[p]?.getD undef = .pointer (some ⟨g, 0, none⟩) := by simpa using hp
  simp [hp', asAddr, run_loadVar_row w g t ty cs fr d hg hu hd hi]

theorem fits_of {a k v n : Int} (h : InRange a k v n) : Fits [a, k, v, n] := by
  obtain ⟨h1, h2, h3, h4⟩ := h
  intro x hx
  simp at hx
  rcases hx with rfl | rfl | rfl | rfl <;> omega

theorem sg_at {g : Nat} {a k v n : Int} {d s : ByteArray} {w : World} (h : Blk g (sg a k v n d s) 34 w) :
    w.cell? ⟨g, 0, none⟩ = some (.int .i64 a) ∧ w.cell? ⟨g, 1, none⟩ = some (.int .i64 k) ∧ w.cell? ⟨g, 2, none⟩ = some (.int .i64 v) ∧ w.cell? ⟨g, 3, none⟩ = some (.int .i64 n) ∧
      w.cell? ⟨g, 4, none⟩ = some (.string d) ∧ w.cell? ⟨g, 5, none⟩ = some (.string s) :=
  ⟨h.cell 0, h.cell 1, h.cell 2, h.cell 3, h.cell 4, h.cell 5⟩

set_option maxRecDepth 100000 in
set_option maxHeartbeats 1000000 in
theorem sign_any (a k v n : Int) (d : ByteArray) (w : World) (h : InRange a k v n) (hd : d.size ≤ 64) :
    Calls Tryd.prog 23 #[.int .i64 a, .int .i64 k, .int .i64 v, .int .i64 n, .string d] w fun e w' =>
      e = .returned (.tuple #[.agg (sg a k v n d (sigOf a k v n d)).toArray, .int .i64 0]) ∧ Below w.heap.size w w' := by
  have P1 := fun u s => statement_ok a k v n d s u h hd
  have P2 := fun u s => signature_any a k v n d s u (fits_of h) (by omega)
  generalize sigOf a k v n d = sig at P2 ⊢
  clear h hd
  go_enter Tryd.func23, Tryd.ntmps23
  go_upto_region 1 with fail
  generalize hw1 : w.alloc _ = w1
  have hA : Blk w.heap.size (sg 0 0 0 0 ⟨#[]⟩ ⟨#[]⟩) 34 w1 := by rw [← hw1]; exact Blk.new _ _ w
  have hB : Below w.heap.size w w1 := by rw [← hw1]; exact (Below.refl _ w).alloc (Nat.le_refl _) _
  clear hw1
  obtain ⟨g, hg⟩ : ∃ g, w.heap.size = g := ⟨_, rfl⟩
  rw [hg] at hA ⊢
  go_upto_region 2 with fail
  generalize hw2 : w1.alloc _ = w2
  have hV : Blk w1.heap.size (sg a k v n d ⟨#[]⟩) 34 w2 := by rw [← hw2]; exact Blk.new _ _ w1
  have hA2 : Blk g (sg 0 0 0 0 ⟨#[]⟩ ⟨#[]⟩) 34 w2 := by rw [← hw2]; exact hA.alloc _
  have hB2 : Below w.heap.size w w2 := by rw [← hw2]; exact hB.alloc hB.size _
  have hgp := hA.lt
  clear hw2 hA hB
  generalize w1.heap.size = p at hV hgp ⊢
  obtain ⟨c0, c1, c2, c3, c4, c5⟩ := sg_at hV
  go_wp2_with fail
  refine (P1 _ _).mono ?_
  rintro e w3 ⟨rfl, k3⟩
  have hV3 := hV.keep k3
  have hA3 := hA2.keep k3
  have hB3 := hB2.trans (k3.mono hB2.size)
  clear hV hA2 hB2 k3 c0 c1 c2 c3 c4 c5
  obtain ⟨c0, c1, c2, c3, c4, c5⟩ := sg_at hV3
  go_wp2_with fail
  refine (P2 _ _).mono ?_
  rintro e w4 ⟨rfl, k4⟩
  have hV4 := hV3.keep k4
  have hA4 := hA3.keep k4
  have hB4 := hB3.trans (k4.mono hB3.size)
  clear hV3 hA3 hB3 k4 c0 c1 c2 c3 c4 c5
  have c5 : w4.cell? ⟨p, 5, none⟩ = some (.string ⟨#[]⟩) := hV4.cell 5
  have f5 := hV4.free 5
  go_upto_region 6 with fail
  generalize hw5 : w4.setCell _ _ = w5
  have hV5 : Blk p (sg a k v n d sig) 34 w5 := by rw [← hw5]; exact hV4.set 5 (.string sig)
  have hA5 : Blk g (sg 0 0 0 0 ⟨#[]⟩ ⟨#[]⟩) 34 w5 := by rw [← hw5]; exact hA4.other _ _ (by omega)
  have hB5 : Below w.heap.size w w5 := by rw [← hw5]; exact hB4.setCell (p := ⟨p, 5, none⟩) (by show w.heap.size ≤ p; omega) _
  clear hw5 hV4 hA4 hB4 c5 f5
  obtain ⟨c0, c1, c2, c3, c4, c5⟩ := sg_at hV5
  go_wp2_with (refine wpList_store_row rfl 34 (.tmp 10) (.tmp 29) rfl g (sg a k v n d sig).toArray rfl rfl 34 _ hA5 (by kernel_rfl) (by kernel_rfl) (by simp [Value.oneCell']) ?_)
  exact bodyPost_ret (results_row_tmp rfl _ _ g 34 (sg a k v n d sig).toArray (0, 0) _ rfl (setRow_heap _ _ _ _ _ _ hA5) Tryd.underlying34 rfl (by kernel_rfl)) rfl ⟨rfl, Dg.Below.setRow _ hB5 (by omega)⟩

set_option maxRecDepth 100000 in
set_option maxHeartbeats 1000000 in
theorem verify_any (a k v n : Int) (d s : ByteArray) (w : World) (h : InRange a k v n) (hd : d.size ≤ 64) :
    Calls Tryd.prog 25 #[.agg (sg a k v n d s).toArray] w fun e w' => e = .returned (.bool (s.toList == (sigOf a k v n d).toList)) ∧ Below w.heap.size w w' := by
  have P1 := fun u => statement_ok a k v n d s u h hd
  have P2 := fun u => signature_any a k v n d s u (fits_of h) (by omega)
  generalize sigOf a k v n d = sig at P2 ⊢
  clear h hd
  go_enter Tryd.func25, Tryd.ntmps25
  go_upto_region 1 with fail
  generalize hw1 : w.alloc _ = w1
  have hA : Blk w.heap.size (sg a k v n d s) 34 w1 := by rw [← hw1]; exact Blk.new _ _ w
  have hB : Below w.heap.size w w1 := by rw [← hw1]; exact (Below.refl _ w).alloc (Nat.le_refl _) _
  clear hw1
  obtain ⟨g, hg⟩ : ∃ g, w.heap.size = g := ⟨_, rfl⟩
  rw [hg] at hA ⊢
  obtain ⟨c0, c1, c2, c3, c4, c5⟩ := sg_cells hA
  refine region_grow (by kernel_rfl) (by kernel_rfl) ?_
  repeat (first | go_big_quiet_skip | (go_big_quiet_want; go_big_quiet_op; first | go_big_quiet_on | (apply Exists.intro; refine And.intro ?_ ?_; (focus (intro gx; first | (go_at_call 26; exact grow_of gx (P1 _)) | (go_at_call 27; exact grow_of gx (P2 _)))); go_big_quiet_on)))
  refine wpQuiet_nil ?_
  intro _ hgx
  obtain ⟨gx, hgx⟩ := hgx
  subst hgx
  go_wp2_with fail
  go_ret
  exact ⟨rfl, hB.trans (gx.below.mono hB.size)⟩

end Go.Proofs.YtnhbgjgfneoajaaDoor
