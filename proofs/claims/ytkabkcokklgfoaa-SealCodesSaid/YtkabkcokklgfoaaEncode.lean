/-
  The code of a signed statement: the program's and the reference's.
-/
import Derived.Test.YtkabkcokklgfoaaSign
set_option linter.unusedVariables false
namespace Go.Proofs.Ytkabkcokklgfoaa
open Go.RowKit

def code (a k v n : Int) (d s : ByteArray) : List UInt8 := cont a k v n d ++ V.putStr (L s)

theorem cont_length (a k v n : Int) (d : ByteArray) : (cont a k v n d).length ≤ 60 + d.size := by
  have h1 := preI_length [a, k, v, n] 4
  have h2 := putStr_length d
  rw [show preI [a, k, v, n] 4 = V.putInts [a, k, v, n] from preI_all [a, k, v, n]] at h1
  have h3 : ([a, k, v, n] : List Int).length = 4 := rfl
  unfold cont
  rw [List.length_append]
  omega

set_option maxRecDepth 100000 in
set_option maxHeartbeats 1000000 in
theorem encode_any (a k v n : Int) (d s : ByteArray) (w : World) (hf : Fits [a, k, v, n]) (hd : d.size ≤ 1000000) (hs : s.size ≤ 1000000) :
    Calls Try.prog 8 #[.agg (sg a k v n d s).toArray] w fun e w' => e = .returned (.string (S (code a k v n d s))) ∧ Below w.heap.size w w' := by
  have P1 := fun u => content_any a k v n d s u hf hd
  have P2 := fun u => putString_any s u (by omega)
  have hc : S (cont a k v n d) ++ S (V.putStr (L s)) = S (code a k v n d s) := by unfold code; rw [S_append, L_S]
  have h1 : (S (cont a k v n d)).size ≤ 1000060 := by rw [S_size]; have := cont_length a k v n d; omega
  have h2 : (S (V.putStr (L s))).size ≤ 1000010 := by rw [S_size]; have := putStr_length s; omega
  have hlen : ¬ 9223372036854775807 < (S (cont a k v n d)).size + (S (V.putStr (L s))).size := by omega
  generalize S (cont a k v n d) = sC at P1 hc hlen
  generalize S (V.putStr (L s)) = sD at P2 hc hlen
  generalize S (code a k v n d s) = sA at hc ⊢
  clear h1 h2 hf hd hs
  go_enter Try.func8, Try.ntmps8
  go_upto_region 1 with fail
  generalize hw1 : w.alloc _ = w1
  have hA : Blk w.heap.size (sg a k v n d s) 24 w1 := by rw [← hw1]; exact Blk.new _ _ w
  have hB : Below w.heap.size w w1 := by rw [← hw1]; exact (Below.refl _ w).alloc (Nat.le_refl _) _
  clear hw1
  obtain ⟨g, hg⟩ : ∃ g, w.heap.size = g := ⟨_, rfl⟩
  rw [hg] at hA ⊢
  obtain ⟨c0, c1, c2, c3, c4, c5⟩ := sg_cells hA
  refine region_grow (by kernel_rfl) (by kernel_rfl) ?_
  repeat (first | go_big_quiet_skip | (go_big_quiet_want; go_big_quiet_op; first | go_big_quiet_on | (apply Exists.intro; refine And.intro ?_ ?_; (focus (intro gx; first | (go_at_call 20; exact grow_of gx (P1 _)) | (go_at_call 21; exact grow_of gx (P2 _)))); go_big_quiet_on)))
  refine wpQuiet_nil ?_
  intro _ hgx
  obtain ⟨gx, hgx⟩ := hgx
  subst hgx
  go_wp2_with fail
  go_ret
  exact ⟨rfl, hB.trans (gx.below.mono hB.size)⟩

/-- all the cells of a statement stand, and nothing else that was there has changed -/
def Six (g : Nat) (a k v n : Int) (d s : ByteArray) (w u : World) : Prop :=
  u.cell? ⟨g, 0, none⟩ = some (.int .i64 a) ∧ u.cell? ⟨g, 1, none⟩ = some (.int .i64 k) ∧ u.cell? ⟨g, 2, none⟩ = some (.int .i64 v) ∧ u.cell? ⟨g, 3, none⟩ = some (.int .i64 n) ∧ u.cell? ⟨g, 4, none⟩ = some (.string d) ∧ u.cell? ⟨g, 5, none⟩ = some (.string s) ∧ Below w.heap.size w u
theorem six_keep {g : Nat} {a k v n : Int} {d s : ByteArray} {w W w' : World} (h : Six g a k v n d s w W) (hb : Below W.heap.size W w') : Six g a k v n d s w w' := by
  have key : ∀ j c, W.cell? ⟨g, j, none⟩ = some c → w'.cell? ⟨g, j, none⟩ = some c := fun j c hc => Gr.cell (w := W) ⟨w', hb⟩ hc
  obtain ⟨h0, h1, h2, h3, h4, h5, h6⟩ := h
  exact ⟨key _ _ h0, key _ _ h1, key _ _ h2, key _ _ h3, key _ _ h4, key _ _ h5, h6.trans (hb.mono h6.size)⟩
theorem six_alloc {g : Nat} {a k v n : Int} {d s : ByteArray} {w W : World} (o : Obj) (h : Six g a k v n d s w W) : Six g a k v n d s w (W.alloc o) := six_keep h ((Below.refl _ W).alloc (Nat.le_refl _) o)
theorem six_drew {g : Nat} {a k v n : Int} {d s : ByteArray} {w W : World} (h : Six g a k v n d s w W) : Six g a k v n d s w W.drew := six_keep h (Below.refl _ W).drew

set_option maxRecDepth 100000 in
set_option maxHeartbeats 4000000 in
theorem refEncode_any (a k v n : Int) (d s : ByteArray) (w : World) (hf : Fits [a, k, v, n]) (hd : d.size ≤ 1000000) (hs : s.size ≤ 1000000) :
    Calls Try.prog 9 #[.agg (sg a k v n d s).toArray] w fun e w' => e = .returned (.string (S (code a k v n d s))) ∧ Below w.heap.size w w' := by
  have P1 : ∀ (u : World) (b : Nat), u.heap[b]? = some (.cells #[.int .i64 a, .int .i64 k, .int .i64 v, .int .i64 n] 3 (0, 0)) →
      Calls Try.prog 22 #[.slice (some ⟨b, 0, none⟩) 4 4] u fun e w' => e = .returned (.string (S (V.putInts [a, k, v, n]))) ∧ Below u.heap.size u w' := fun u b h =>
    refPutInts_any [a, k, v, n] (some ⟨b, 0, none⟩) 4 u (cells4 u a k v n u b h) (by simp) hf
  have P2 := fun u => refPutString_any d u (by omega)
  have P3 := fun u => refPutString_any s u (by omega)
  have hI : (S (V.putInts [a, k, v, n])).size ≤ 50 := by
    rw [S_size, ← preI_all]; exact preI_length [a, k, v, n] 4
  have hD : (S (V.putStr (L d))).size ≤ 1000010 := by
    rw [S_size]; have := putStr_length d; omega
  have hE : (S (V.putStr (L s))).size ≤ 1000010 := by
    rw [S_size]; have := putStr_length s; omega
  have hs1 : S (V.putInts [a, k, v, n]) ++ S (V.putStr (L d)) = S (cont a k v n d) := by unfold cont; rw [S_append, L_S]
  have hs2 : S (cont a k v n d) ++ S (V.putStr (L s)) = S (code a k v n d s) := by unfold code; rw [S_append, L_S]
  have h1 : (S (cont a k v n d)).size ≤ 1000060 := by rw [S_size]; have := cont_length a k v n d; omega
  have hl1 : ¬ 9223372036854775807 < (S (V.putInts [a, k, v, n])).size + (S (V.putStr (L d))).size := by omega
  have hl2 : ¬ 9223372036854775807 < (S (cont a k v n d)).size + (S (V.putStr (L s))).size := by omega
  generalize S (V.putInts [a, k, v, n]) = sI at P1 hs1 hl1
  generalize S (V.putStr (L d)) = sD at P2 hs1 hl1
  generalize S (V.putStr (L s)) = sE at P3 hs2 hl2
  generalize S (cont a k v n d) = sC at hs1 hs2 hl2
  generalize S (code a k v n d s) = sA at hs2 ⊢
  clear hI hD hE h1 hf hd hs
  go_enter Try.func9, Try.ntmps9
  go_upto_region 1 with fail
  generalize hw1 : w.alloc _ = w1
  have hA : Blk w.heap.size (sg a k v n d s) 24 w1 := by rw [← hw1]; exact Blk.new _ _ w
  have hB : Below w.heap.size w w1 := by rw [← hw1]; exact (Below.refl _ w).alloc (Nat.le_refl _) _
  clear hw1
  obtain ⟨g, hg⟩ : ∃ g, w.heap.size = g := ⟨_, rfl⟩
  rw [hg] at hA ⊢
  obtain ⟨c0, c1, c2, c3, c4, c5⟩ := sg_at hA
  clear hA
  go_region_held3 (fun u => u.cell? ⟨g, 0, none⟩ = some (.int .i64 a) ∧ u.cell? ⟨g, 1, none⟩ = some (.int .i64 k) ∧ u.cell? ⟨g, 2, none⟩ = some (.int .i64 v) ∧ u.cell? ⟨g, 3, none⟩ = some (.int .i64 n) ∧ u.cell? ⟨g, 4, none⟩ = some (.string d) ∧ u.cell? ⟨g, 5, none⟩ = some (.string s) ∧ Below w.heap.size w u)
    (first | assumption | exact six_drew ⟨c0, c1, c2, c3, c4, c5, hB⟩ | exact six_keep (by assumption) (by assumption) | exact six_drew (six_alloc _ (by assumption)) | exact six_alloc _ (by assumption))
    (first
      | (go_at_call 22; refine (P1 _ _ ?hc).mono ?_; (case hc => first | exact heap_alloc_new _ _ | exact (Below.block (by assumption) _ (by simp)).trans (heap_alloc_new _ _) | exact ((Below.trans (by assumption) (by assumption)).block _ (by simp)).trans (heap_alloc_new _ _)); rintro e w' ⟨rfl, hb⟩)
      | (go_at_call_of 23 (Value.string d); refine (P2 _).mono ?_; rintro e w' ⟨rfl, hb⟩)
      | (go_at_call_of 23 (Value.string s); refine (P3 _).mono ?_; rintro e w' ⟨rfl, hb⟩))
  all_goals go_wp2_with fail
  all_goals go_ret
  all_goals exact ⟨rfl, (show Six g a k v n d s w _ from by assumption).2.2.2.2.2.2⟩

end Go.Proofs.Ytkabkcokklgfoaa
