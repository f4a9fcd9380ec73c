/-
  Signed statements: their check, their code, their signature.
-/
import Derived.Test.YtnhbgjgfneoajaaDoorGrow
import Derived.Deep.RegionHeld3
import Derived.Test.YtnhbgjgfneoajaaDoorBlk
import Derived.Test.YtnhbgjgfneoajaaDoorPutList
import Derived.Test.YtnhbgjgfneoajaaDoorHex
set_option linter.unusedVariables false
namespace Go.Proofs.YtnhbgjgfneoajaaDoor
open Go.RowKit

/-- a signed statement as a value -/
abbrev sg (a k v n : Int) (d s : ByteArray) : List Value := [.int .i64 a, .int .i64 k, .int .i64 v, .int .i64 n, .string d, .string s]
/-- the numbers fit an int -/
def Fit4 (a k v n : Int) : Prop := Fits [a, k, v, n]
/-- the numbers of a statement are in range -/
def InRange (a k v n : Int) : Prop := (0 ≤ a ∧ a ≤ 11) ∧ (1 ≤ k ∧ k ≤ 5) ∧ (0 ≤ v ∧ v ≤ 2147483647) ∧ (0 ≤ n ∧ n ≤ 2147483647)
def cont (a k v n : Int) (d : ByteArray) : List UInt8 := V.putInts [a, k, v, n] ++ V.putStr (L d)

set_option maxRecDepth 100000 in
set_option maxHeartbeats 1000000 in
theorem within_any (x lo hi : Int) (w : World) (h : lo ≤ x ∧ x ≤ hi) : Calls Tryd.prog 31 #[.int .i64 x, .int .i64 lo, .int .i64 hi] w fun e w' => e = .returned (.bool true) ∧ w' = w := by
  obtain ⟨h1, h2⟩ := h
  go_enter Tryd.func31, Tryd.ntmps31
  go_wp2_with fail
  go_ret
  exact ⟨rfl, rfl⟩

set_option maxRecDepth 100000 in
set_option maxHeartbeats 1000000 in
theorem statement_ok (a k v n : Int) (d s : ByteArray) (w : World) (h : InRange a k v n) (hd : d.size ≤ 64) :
    Calls Tryd.prog 26 #[.agg (sg a k v n d s).toArray] w fun e w' => e = .returned (.int .i64 0) ∧ Below w.heap.size w w' := by
  obtain ⟨h1, h2, h3, h4⟩ := h
  have P1 := fun w => within_any a 0 11 w h1
  have P2 := fun w => within_any k 1 5 w h2
  have P3 := fun w => within_any v 0 2147483647 w h3
  have P4 := fun w => within_any n 0 2147483647 w h4
  have hd1 : (d.size : Int) ≤ 64 := by omega
  go_enter Tryd.func26, Tryd.ntmps26
  go_upto_region 1 with fail
  generalize hw1 : w.alloc _ = w1
  have hA : Blk w.heap.size (sg a k v n d s) 34 w1 := by rw [← hw1]; exact Blk.new _ _ w
  have hB : Below w.heap.size w w1 := by rw [← hw1]; exact (Below.refl _ w).alloc (Nat.le_refl _) _
  clear hw1
  obtain ⟨g, hg⟩ : ∃ g, w.heap.size = g := ⟨_, rfl⟩
  rw [hg] at hA ⊢
  have c0 : w1.cell? ⟨g, 0, none⟩ = some (.int .i64 a) := hA.cell 0
  have c1 : w1.cell? ⟨g, 1, none⟩ = some (.int .i64 k) := hA.cell 1
  have c2 : w1.cell? ⟨g, 2, none⟩ = some (.int .i64 v) := hA.cell 2
  have c3 : w1.cell? ⟨g, 3, none⟩ = some (.int .i64 n) := hA.cell 3
  have c4 : w1.cell? ⟨g, 4, none⟩ = some (.string d) := hA.cell 4
  clear hA
  go_wp2_with fail
  refine (P1 _).mono ?_
  rintro e w' ⟨rfl, rfl⟩
  go_wp2_with fail
  refine (P2 _).mono ?_
  rintro e w' ⟨rfl, rfl⟩
  go_wp2_with fail
  refine (P3 _).mono ?_
  rintro e w' ⟨rfl, rfl⟩
  go_wp2_with fail
  refine (P4 _).mono ?_
  rintro e w' ⟨rfl, rfl⟩
  go_wp2_with fail
  go_ret
  exact ⟨rfl, hB⟩

/-- the facts that a block with a statement gives in every grown world -/
theorem sg_cells {g : Nat} {a k v n : Int} {d s : ByteArray} {w : World} (h : Blk g (sg a k v n d s) 34 w) :
    (∀ x : Gr w, x.u.cell? ⟨g, 0, none⟩ = some (.int .i64 a)) ∧ (∀ x : Gr w, x.u.cell? ⟨g, 1, none⟩ = some (.int .i64 k)) ∧ (∀ x : Gr w, x.u.cell? ⟨g, 2, none⟩ = some (.int .i64 v)) ∧
      (∀ x : Gr w, x.u.cell? ⟨g, 3, none⟩ = some (.int .i64 n)) ∧ (∀ x : Gr w, x.u.cell? ⟨g, 4, none⟩ = some (.string d)) ∧ (∀ x : Gr w, x.u.cell? ⟨g, 5, none⟩ = some (.string s)) :=
  ⟨fun x => x.cell (h.cell 0), fun x => x.cell (h.cell 1), fun x => x.cell (h.cell 2), fun x => x.cell (h.cell 3), fun x => x.cell (h.cell 4), fun x => x.cell (h.cell 5)⟩

theorem cells4 (w : World) (a k v n : Int) (w' : World) (b : Nat) (h : w'.heap[b]? = some (.cells #[.int .i64 a, .int .i64 k, .int .i64 v, .int .i64 n] 3 (0, 0))) : Cells w' (some ⟨b, 0, none⟩) 4 (intAt [a, k, v, n]) := by
  intro i hi
  refine ⟨b, 0, rfl, ?_⟩
  rw [Lib.cell_of_heap h]
  match i, hi with
  | 0, _ => rfl
  | 1, _ => rfl
  | 2, _ => rfl
  | 3, _ => rfl

/-- what content reads stands, and nothing else that was there has changed -/
def Five (g : Nat) (a k v n : Int) (d : ByteArray) (w u : World) : Prop :=
  u.cell? ⟨g, 0, none⟩ = some (.int .i64 a) ∧ u.cell? ⟨g, 1, none⟩ = some (.int .i64 k) ∧ u.cell? ⟨g, 2, none⟩ = some (.int .i64 v) ∧ u.cell? ⟨g, 3, none⟩ = some (.int .i64 n) ∧ u.cell? ⟨g, 4, none⟩ = some (.string d) ∧ Below w.heap.size w u
theorem five_keep {g : Nat} {a k v n : Int} {d : ByteArray} {w W w' : World} (h : Five g a k v n d w W) (hb : Below W.heap.size W w') : Five g a k v n d w w' := by
  have key : ∀ j c, W.cell? ⟨g, j, none⟩ = some c → w'.cell? ⟨g, j, none⟩ = some c := fun j c hc => Gr.cell (w := W) ⟨w', hb⟩ hc
  obtain ⟨h0, h1, h2, h3, h4, h5⟩ := h
  exact ⟨key _ _ h0, key _ _ h1, key _ _ h2, key _ _ h3, key _ _ h4, h5.trans (hb.mono h5.size)⟩
theorem five_alloc {g : Nat} {a k v n : Int} {d : ByteArray} {w W : World} (o : Obj) (h : Five g a k v n d w W) : Five g a k v n d w (W.alloc o) := five_keep h ((Below.refl _ W).alloc (Nat.le_refl _) o)
theorem five_drew {g : Nat} {a k v n : Int} {d : ByteArray} {w W : World} (h : Five g a k v n d w W) : Five g a k v n d w W.drew := five_keep h (Below.refl _ W).drew

set_option maxRecDepth 100000 in
set_option maxHeartbeats 1000000 in
theorem content_any (a k v n : Int) (d s : ByteArray) (w : World) (hf : Fits [a, k, v, n]) (hd : d.size ≤ 1000000) :
    Calls Tryd.prog 34 #[.agg (sg a k v n d s).toArray] w fun e w' => e = .returned (.string (S (cont a k v n d))) ∧ Below w.heap.size w w' := by
  have hl : cont a k v n d = V.putInts [a, k, v, n] ++ V.putStr (L d) := rfl
  have P1 : ∀ (u : World) (b : Nat), u.heap[b]? = some (.cells #[.int .i64 a, .int .i64 k, .int .i64 v, .int .i64 n] 3 (0, 0)) →
      Calls Tryd.prog 40 #[.slice (some ⟨b, 0, none⟩) 4 4] u fun e w' => e = .returned (.string (S (V.putInts [a, k, v, n]))) ∧ Below u.heap.size u w' := fun u b h =>
    putInts_any [a, k, v, n] (some ⟨b, 0, none⟩) 4 u (cells4 u a k v n u b h) (by simp) hf
  have P2 := fun u => putString_any d u (by omega)
  have hs : S (V.putInts [a, k, v, n]) ++ S (V.putStr (L d)) = S (cont a k v n d) := by rw [hl, S_append, L_S]
  have hI : (S (V.putInts [a, k, v, n])).size ≤ 50 := by
    rw [S_size, ← preI_all]; exact preI_length [a, k, v, n] 4
  have hD : (S (V.putStr (L d))).size ≤ 1000010 := by
    rw [S_size]; have := putStr_length d; omega
  generalize S (V.putInts [a, k, v, n]) = sI at P1 hs hI
  generalize S (V.putStr (L d)) = sD at P2 hs hD
  generalize S (cont a k v n d) = sC at hs ⊢
  have hlen : ¬ 9223372036854775807 < sI.size + sD.size := by omega
  clear hl hf hd hI hD
  go_enter Tryd.func34, Tryd.ntmps34
  go_upto_region 1 with fail
  generalize hw1 : w.alloc _ = w1
  have hA : Blk w.heap.size (sg a k v n d s) 34 w1 := by rw [← hw1]; exact Blk.new _ _ w
  have hB : Below w.heap.size w w1 := by rw [← hw1]; exact (Below.refl _ w).alloc (Nat.le_refl _) _
  clear hw1
  obtain ⟨g, hg⟩ : ∃ g, w.heap.size = g := ⟨_, rfl⟩
  have hgl := hA.lt
  rw [hg] at hA ⊢
  have c0 : w1.cell? ⟨g, 0, none⟩ = some (.int .i64 a) := hA.cell 0
  have c1 : w1.cell? ⟨g, 1, none⟩ = some (.int .i64 k) := hA.cell 1
  have c2 : w1.cell? ⟨g, 2, none⟩ = some (.int .i64 v) := hA.cell 2
  have c3 : w1.cell? ⟨g, 3, none⟩ = some (.int .i64 n) := hA.cell 3
  have c4 : w1.cell? ⟨g, 4, none⟩ = some (.string d) := hA.cell 4
  clear hA
  go_region_held3 (fun u => u.cell? ⟨g, 0, none⟩ = some (.int .i64 a) ∧ u.cell? ⟨g, 1, none⟩ = some (.int .i64 k) ∧ u.cell? ⟨g, 2, none⟩ = some (.int .i64 v) ∧ u.cell? ⟨g, 3, none⟩ = some (.int .i64 n) ∧ u.cell? ⟨g, 4, none⟩ = some (.string d) ∧ Below w.heap.size w u)
    (first | assumption | exact five_drew ⟨c0, c1, c2, c3, c4, hB⟩ | exact five_keep (by assumption) (by assumption) | exact five_drew (five_alloc _ (by assumption)) | exact five_alloc _ (by assumption))
    (first
      | (go_at_call 40; refine (P1 _ _ ?hc).mono ?_; (case hc => first | exact heap_alloc_new _ _ | exact (Below.block (by assumption) _ (by simp)).trans (heap_alloc_new _ _)); rintro e w' ⟨rfl, hb⟩)
      | (go_at_call 33; refine (P2 _).mono ?_; rintro e w' ⟨rfl, hb⟩))
  all_goals go_wp2_with fail
  all_goals go_ret
  all_goals exact ⟨rfl, (show Five g a k v n d w _ from by assumption).2.2.2.2.2⟩

/-- the text that is signed, and the signature -/
def key : List UInt8 := [115, 101, 100, 101, 114, 117, 110, 116, 32, 107, 101, 121]
def sigOf (a k v n : Int) (d : ByteArray) : ByteArray := S ((Dg.D.hx (Dg.D.sumAll (V.putStr key ++ cont a k v n d)) 32).take 16)

set_option maxRecDepth 100000 in
set_option maxHeartbeats 1000000 in
theorem signature_any (a k v n : Int) (d s : ByteArray) (w : World) (hf : Fits [a, k, v, n]) (hd : d.size ≤ 1000000) :
    Calls Tryd.prog 27 #[.agg (sg a k v n d s).toArray] w fun e w' => e = .returned (.string (sigOf a k v n d)) ∧ Below w.heap.size w w' := by
  have P1 := fun u => putString_any ⟨#[115, 101, 100, 101, 114, 117, 110, 116, 32, 107, 101, 121]⟩ u (by decide)
  have P2 := fun u => content_any a k v n d s u hf hd
  have hs : S (V.putStr (L ⟨#[115, 101, 100, 101, 114, 117, 110, 116, 32, 107, 101, 121]⟩)) ++ S (cont a k v n d) = S (V.putStr key ++ cont a k v n d) := by rw [S_append, L_S]; rfl
  have hI : (V.putStr (L ⟨#[115, 101, 100, 101, 114, 117, 110, 116, 32, 107, 101, 121]⟩)).length ≤ 10 + 12 := putStr_length _
  have hC : (cont a k v n d).length ≤ 1000060 := by
    have h1 := preI_length [a, k, v, n] 4
    have h2 := putStr_length d
    rw [show preI [a, k, v, n] 4 = V.putInts [a, k, v, n] from preI_all [a, k, v, n]] at h1
    have h3 : ([a, k, v, n] : List Int).length = 4 := rfl
    unfold cont
    rw [List.length_append]
    omega
  have hlen : ¬ 9223372036854775807 < (S (V.putStr (L ⟨#[115, 101, 100, 101, 114, 117, 110, 116, 32, 107, 101, 121]⟩))).size + (S (cont a k v n d)).size := by rw [S_size, S_size]; omega
  have P3 := fun u => Dg.short_any (S (V.putStr key ++ cont a k v n d)) u (by
    rw [S_size, List.length_append]
    have : (V.putStr key).length ≤ 10 + 12 := hI
    omega)
  have P3' : ∀ u, Calls Tryd.prog 32 #[.string (S (V.putStr key ++ cont a k v n d))] u fun e w' => e = .returned (.string (sigOf a k v n d)) ∧ Below u.heap.size u w' := fun u => P3 u
  clear P3 hI hC
  generalize S (V.putStr (L ⟨#[115, 101, 100, 101, 114, 117, 110, 116, 32, 107, 101, 121]⟩)) = sI at P1 hs hlen
  generalize S (cont a k v n d) = sC at P2 hs hlen
  generalize S (V.putStr key ++ cont a k v n d) = sA at hs P3'
  generalize sigOf a k v n d = sig at P3' ⊢
  clear hf hd
  go_enter Tryd.func27, Tryd.ntmps27
  go_upto_region 1 with fail
  generalize hw1 : w.alloc _ = w1
  have hA : Blk w.heap.size (sg a k v n d s) 34 w1 := by rw [← hw1]; exact Blk.new _ _ w
  have hB : Below w.heap.size w w1 := by rw [← hw1]; exact (Below.refl _ w).alloc (Nat.le_refl _) _
  clear hw1
  obtain ⟨g, hg⟩ : ∃ g, w.heap.size = g := ⟨_, rfl⟩
  rw [hg] at hA ⊢
  obtain ⟨c0, c1, c2, c3, c4, c5⟩ := sg_cells hA
  refine region_grow (by kernel_rfl) (by kernel_rfl) ?_
  repeat (first | go_big_quiet_skip | (go_big_quiet_want; go_big_quiet_op; first | go_big_quiet_on | (apply Exists.intro; refine And.intro ?_ ?_; (focus (intro gx; first | (go_at_call 33; exact grow_of gx (P1 _)) | (go_at_call 34; exact grow_of gx (P2 _)) | (go_at_call 32; exact grow_of gx (P3' _)))); go_big_quiet_on)))
  refine wpQuiet_nil ?_
  intro _ hgx
  obtain ⟨gx, hgx⟩ := hgx
  subst hgx
  go_wp2_with fail
  go_ret
  exact ⟨rfl, hB.trans (gx.below.mono hB.size)⟩

end Go.Proofs.YtnhbgjgfneoajaaDoor
