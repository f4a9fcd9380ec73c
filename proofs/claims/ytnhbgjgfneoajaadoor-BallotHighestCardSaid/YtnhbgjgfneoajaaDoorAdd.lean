/-
  What 'add' does to a state of eight words: one block of SHA-256.
-/
import Derived.Test.YtnhbgjgfneoajaaDoorBlk
import Derived.Deep.Cut
import Derived.Deep.MidRow
import Derived.Test.YtnhbgjgfneoajaaDoorSha
set_option linter.unusedVariables false
namespace Go.Proofs.YtnhbgjgfneoajaaDoor.Dg
open Go.RowKit

theorem Below.setRow {B g : Nat} {w w' : World} (cs : Array Value) (h : Below B w w') (hg : B ≤ g) : Below B w (w'.setRow g cs) :=
  ⟨h.os, h.tape, h.output, by rw [setRow_size]; exact h.size, fun k hk => (setRow_other _ _ _ _ (by omega)).trans (h.block k hk)⟩

/-- words, as cells -/
def ws (l : List U) : List Value := l.map fun a => .int .u32 (N a)
theorem ws_length (l : List U) : (ws l).length = l.length := by simp [ws]
theorem ws_get (l : List U) (i : Nat) (h : i < l.length) : (ws l)[i]? = some (.int .u32 (N (l.getD i 0))) := by
  simp [ws, h]
theorem ws_set (l : List U) (i : Nat) (a : U) : (ws l).set i (.int .u32 (N a)) = ws (l.set i a) := by simp [ws, List.map_set]

theorem ws_H0 : (ws D.H0).toArray = #[.int .u32 1779033703, .int .u32 3144134277, .int .u32 1013904242, .int .u32 2773480762, .int .u32 1359893119, .int .u32 2600822924, .int .u32 528734635, .int .u32 1541459225] := by kernel_rfl

set_option maxRecDepth 100000 in
set_option maxHeartbeats 1000000 in
theorem start_any (w : World) : Calls Tryd.prog 54 #[] w fun e w' => e = .returned (.agg (ws D.H0).toArray) ∧ Below w.heap.size w w' := by
  rw [ws_H0]
  go_enter Tryd.func54, Tryd.ntmps54
  go_wp2_with fail
  exact bodyPost_ret (results_cell_row rfl _ _ w.heap.size 90 #[.int .u32 1779033703, .int .u32 3144134277, .int .u32 1013904242, .int .u32 2773480762, .int .u32 1359893119, .int .u32 2600822924, .int .u32 528734635, .int .u32 1541459225] (0, 0) _ rfl (heap_alloc_new _ _) Tryd.underlying90 rfl (by kernel_rfl)) rfl ⟨rfl, (Below.refl _ w).alloc (Nat.le_refl _) _⟩

theorem ws_K : (ws D.K).toArray = #[.int .u32 1116352408, .int .u32 1899447441, .int .u32 3049323471, .int .u32 3921009573, .int .u32 961987163, .int .u32 1508970993, .int .u32 2453635748, .int .u32 2870763221, .int .u32 3624381080, .int .u32 310598401, .int .u32 607225278, .int .u32 1426881987, .int .u32 1925078388, .int .u32 2162078206, .int .u32 2614888103, .int .u32 3248222580, .int .u32 3835390401, .int .u32 4022224774, .int .u32 264347078, .int .u32 604807628, .int .u32 770255983, .int .u32 1249150122, .int .u32 1555081692, .int .u32 1996064986, .int .u32 2554220882, .int .u32 2821834349, .int .u32 2952996808, .int .u32 3210313671, .int .u32 3336571891, .int .u32 3584528711, .int .u32 113926993, .int .u32 338241895, .int .u32 666307205, .int .u32 773529912, .int .u32 1294757372, .int .u32 1396182291, .int .u32 1695183700, .int .u32 1986661051, .int .u32 2177026350, .int .u32 2456956037, .int .u32 2730485921, .int .u32 2820302411, .int .u32 3259730800, .int .u32 3345764771, .int .u32 3516065817, .int .u32 3600352804, .int .u32 4094571909, .int .u32 275423344, .int .u32 430227734, .int .u32 506948616, .int .u32 659060556, .int .u32 883997877, .int .u32 958139571, .int .u32 1322822218, .int .u32 1537002063, .int .u32 1747873779, .int .u32 1955562222, .int .u32 2024104815, .int .u32 2227730452, .int .u32 2361852424, .int .u32 2428436474, .int .u32 2756734187, .int .u32 3204031479, .int .u32 3329325298] := by kernel_rfl

def KK : Array Value := #[.int .u32 1116352408, .int .u32 1899447441, .int .u32 3049323471, .int .u32 3921009573, .int .u32 961987163, .int .u32 1508970993, .int .u32 2453635748, .int .u32 2870763221, .int .u32 3624381080, .int .u32 310598401, .int .u32 607225278, .int .u32 1426881987, .int .u32 1925078388, .int .u32 2162078206, .int .u32 2614888103, .int .u32 3248222580, .int .u32 3835390401, .int .u32 4022224774, .int .u32 264347078, .int .u32 604807628, .int .u32 770255983, .int .u32 1249150122, .int .u32 1555081692, .int .u32 1996064986, .int .u32 2554220882, .int .u32 2821834349, .int .u32 2952996808, .int .u32 3210313671, .int .u32 3336571891, .int .u32 3584528711, .int .u32 113926993, .int .u32 338241895, .int .u32 666307205, .int .u32 773529912, .int .u32 1294757372, .int .u32 1396182291, .int .u32 1695183700, .int .u32 1986661051, .int .u32 2177026350, .int .u32 2456956037, .int .u32 2730485921, .int .u32 2820302411, .int .u32 3259730800, .int .u32 3345764771, .int .u32 3516065817, .int .u32 3600352804, .int .u32 4094571909, .int .u32 275423344, .int .u32 430227734, .int .u32 506948616, .int .u32 659060556, .int .u32 883997877, .int .u32 958139571, .int .u32 1322822218, .int .u32 1537002063, .int .u32 1747873779, .int .u32 1955562222, .int .u32 2024104815, .int .u32 2227730452, .int .u32 2361852424, .int .u32 2428436474, .int .u32 2756734187, .int .u32 3204031479, .int .u32 3329325298]

set_option maxRecDepth 100000 in
set_option maxHeartbeats 1000000 in
theorem constants_any (w : World) : Calls Tryd.prog 63 #[] w fun e w' => e = .returned (.agg (ws D.K).toArray) ∧ Below w.heap.size w w' := by
  go_enter Tryd.func63, Tryd.ntmps63
  go_upto_region 1 with fail
  apply wp_region_lit
  refine wpList_build rfl 102 _ rfl (by kernel_rfl) ?_
  refine wpList_store_row rfl 102 (.tmp 0) (.tmp 1) rfl w.heap.size KK rfl (by kernel_rfl) 102 _ (heap_alloc_new _ _) (by kernel_rfl) (by kernel_rfl) (by kernel_rfl) ?_
  go_wp2_with fail
  exact bodyPost_ret (results_cell_row rfl _ _ w.heap.size 102 KK (0, 0) _ rfl (setRow_heap _ _ _ _ _ _ (heap_alloc_new _ _)) Tryd.underlying102 rfl (by kernel_rfl)) rfl ⟨by rw [ws_K]; rfl, Below.setRow _ ((Below.refl _ w).alloc (Nat.le_refl _) _) (Nat.le_refl _)⟩

end Go.Proofs.YtnhbgjgfneoajaaDoor.Dg
