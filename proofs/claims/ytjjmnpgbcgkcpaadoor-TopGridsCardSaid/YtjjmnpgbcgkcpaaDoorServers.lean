/-
  The expressions of some servers.
-/
import Derived.Test.YtjjmnpgbcgkcpaaDoorNd
set_option linter.unusedVariables false
namespace Go.Proofs.YtjjmnpgbcgkcpaaDoor
open Go.RowKit

theorem Below.setRow {B g : Nat} {w w' : World} (cs : Array Value) (h : Below B w w') (hg : B ≤ g) : Below B w (w'.setRow g cs) :=
  ⟨h.os, h.tape, h.output, by rw [setRow_size]; exact h.size, fun k hk => (setRow_other _ _ _ _ (by omega)).trans (h.block k hk)⟩

namespace T
def upTo (fr n : Nat) : List Int := (List.range n).map fun i => ((fr + i : Nat) : Int)
theorem upTo_succ (fr n : Nat) : upTo fr (n + 1) = upTo fr n ++ [((fr + n : Nat) : Int)] := by unfold upTo; rw [List.range_succ, List.map_append]; rfl
def server (i : Int) : Ex := ([⟨1, i, 0, []⟩], 0)
def servers (l : List Int) : List Ex := l.map server
end T

set_option maxRecDepth 100000 in
set_option maxHeartbeats 200000 in
theorem upTo_any (fr n : Nat) (hf : fr ≤ 1000) (hn : n ≤ 1000) (w : World) :
    Calls Tryd.prog 11 #[.int .i64 (fr : Int), .int .i64 (n : Int)] w fun e w' => ∃ v, e = .returned v ∧ OwnsI w.heap.size v (T.upTo fr n) w' ∧ Below w.heap.size w w' := by
  have hs := T.upTo_succ fr
  have h0 : T.upTo fr 0 = [] := rfl
  have hl : ∀ i, (T.upTo fr i).length = i := fun i => by unfold T.upTo; simp
  generalize T.upTo fr = f at hs h0 hl ⊢
  go_enter Tryd.func11, Tryd.ntmps11
  go_wp2_with fail
  go_loopw [5, 8] (fun v x wr => ∃ i : Nat, x = .int .i64 (i : Int) ∧ i ≤ n ∧ OwnsI w.heap.size v (f i) wr ∧ Below w.heap.size w wr) (fun _ x _ => n - (intOf x).toNat)
  case atStart => exact ⟨0, rfl, by omega, by rw [h0]; exact World.ownsRow_nil _ _ _ _, Below.refl _ _⟩
  case round =>
    obtain ⟨i, rfl, hi, hown, hB⟩ := hrel
    by_cases hlt : i < n
    · have hsz := hB.size
      have hli := hl i
      unfold OwnsI at hown
      rw [hli] at hown
      go_wp2_with (at_builtin; refine wpList_app1 rfl _ _ 40 rfl w.heap.size 3 1 elemInt _ _ _ rfl (hown.alloc _) ⟨wr.heap.size, 0, none⟩ 1 [_] rfl rfl (one_at _ _ _) (one_cell _ rfl) (by omega) (by simp; omega) ?_)
      rintro g cap w1 hown' hgrow hg
      have hB1 := app_below hown hB hgrow
      clear hown hgrow hg hB
      go_wp2_with fail
      go_roundw
      case rel =>
        refine ⟨i + 1, by go_num, by omega, ?_, hB1⟩
        unfold OwnsI
        rw [hl, hs, List.map_append]
        exact hown'
      case measure => simp [intOf]; omega
    · obtain rfl : i = n := by omega
      obtain ⟨ao, cap, rfl⟩ := owns_slice hown
      go_wp2_with fail
      go_ret
      exact ⟨_, rfl, hown, hB⟩

theorem Blk.setRow {b g : Nat} {l : List Value} {T : TypeId} {w : World} (h : Blk b l T w) (cs : Array Value) (hne : b ≠ g) : Blk b l T (w.setRow g cs) := by
  unfold Blk at *
  rw [setRow_other _ _ _ _ hne]; exact h
theorem nodes_one {w : World} {b : Nat} {d : Nd} (h : Blk b (ndRow d (.slice none 0 0)) 59 w) (hk : d.kids = []) : NodesAt w (.slice (some ⟨b, 0, none⟩) 1 1) [d] :=
  ⟨[(d, .slice none 0 0)], ⟨⟨rfl, .inr ⟨b, 1, _, rfl, Nat.zero_le _, h, Nat.le_refl _, by decide, rfl, rfl⟩⟩, fun p hp => by
    obtain rfl : p = (d, .slice none 0 0) := by simpa using hp
    show World.ownsRow _ _ _ _ _ _ _
    rw [hk]
    exact World.ownsRow_nil _ _ _ _⟩, rfl, Nat.zero_lt_one⟩

set_option maxRecDepth 100000 in
set_option maxHeartbeats 200000 in
theorem server_any (i : Int) (w : World) :
    Calls Tryd.prog 27 #[.int .i64 i] w fun e w' => ∃ nv, e = .returned (.agg #[nv, .int .i64 0]) ∧ NodesAt w' nv (T.server i).1 ∧ Below w.heap.size w w' := by
  go_enter Tryd.func27, Tryd.ntmps27
  go_upto_region 1 with fail
  generalize hw1 : w.alloc _ = w1
  have hA : Blk w.heap.size [.slice none 0 0, .int .i64 0] 24 w1 := by rw [← hw1]; exact Blk.new _ _ w
  have hB : Below w.heap.size w w1 := by rw [← hw1]; exact (Below.refl _ w).alloc (Nat.le_refl _) _
  clear hw1
  go_wp2_with (first | (refine wpList_store_row rfl 24 (.tmp 2) (.tmp 6) rfl w.heap.size #[.slice (some ⟨w1.heap.size, 0, none⟩) 1 1, .int .i64 0] rfl rfl 24 _ ((Blk.alloc hA _)) (by kernel_rfl) (by kernel_rfl) (by simp [Value.oneCell']) ?_))
  have hN : Blk w1.heap.size (ndRow ⟨1, i, 0, []⟩ (.slice none 0 0)) 59 (w1.alloc (.cells #[.int .i64 1, .int .i64 i, .int .i64 0, .slice none 0 0, .slice none 0 0] 59)) := Blk.new _ _ w1
  have hA2 := hA.alloc (.cells #[.int .i64 1, .int .i64 i, .int .i64 0, .slice none 0 0, .slice none 0 0] 59)
  have hlt := hA.lt
  exact bodyPost_ret (results_cell_row rfl _ _ w.heap.size 24 #[.slice (some ⟨w1.heap.size, 0, none⟩) 1 1, .int .i64 0] (0, 0) _ rfl (setRow_heap _ _ _ _ _ _ hA2) Tryd.underlying24 rfl (by kernel_rfl)) rfl
    ⟨_, rfl, nodes_one (hN.setRow _ (by omega)) rfl, Below.setRow _ (hB.alloc hB.size _) (Nat.le_refl _)⟩

set_option maxRecDepth 100000 in
set_option maxHeartbeats 200000 in
theorem servers_any (v0 : Value) (xs : List Int) (hn : xs.length ≤ 1000) (w : World) (hv : Ints w v0 xs) :
    Calls Tryd.prog 10 #[v0] w fun e w' => ∃ v l, e = .returned v ∧ OwnExs w.heap.size v l w' ∧ l.map (·.1) = T.servers xs ∧ Below w.heap.size w w' := by
  obtain ⟨ao, cap0, rfl, hc, _⟩ := hv
  go_enter Tryd.func10, Tryd.ntmps10
  go_wp2_with fail
  go_loopw [3, 8] (fun v x wr => ∃ (i : Nat) (l : List (Ex × Value)), x = .int .i64 (i : Int) ∧ i ≤ xs.length ∧ l.length = i ∧ OwnExs w.heap.size v l wr ∧ l.map (·.1) = T.servers (xs.take i) ∧ Below w.heap.size w wr) (fun _ x _ => xs.length - (intOf x).toNat)
  case atStart => exact ⟨0, [], rfl, by omega, rfl, OwnExs.nil _ _, rfl, Below.refl _ _⟩
  case round =>
    obtain ⟨i, l, rfl, hi, hl, hown, hm, hB⟩ := hrel
    by_cases hlt : i < xs.length
    · obtain ⟨b, off, rfl, hcell⟩ := (hc.keep hB) i hlt
      have hm2 : T.servers (xs.take (i + 1)) = l.map (·.1) ++ [T.server (xs.getD i 0)] := by
        rw [List.take_add_one, List.getElem?_eq_getElem hlt, T.servers, List.map_append, ← T.servers, ← hm, List.getD_eq_getElem?_getD, List.getElem?_eq_getElem hlt]
        rfl
      unfold intAt at hcell
      generalize xs.getD i 0 = x at hcell hm2
      have hsz := hB.size
      clear hc
      go_wp2_with (first
        | (go_at_call 27; refine (server_any x wr).mono ?_; rintro e w2 ⟨nv, rfl, hN2, hB2⟩; obtain ⟨nb, ncap, rfl, _⟩ := hN2.rd; have hown2 := hown.keep hB2; have hB3 := hB.trans (hB2.mono hB.size); have hsz2 := hB3.size; clear hown hB hB2 hcell)
        | (at_builtin; refine wpList_app1 rfl _ _ 38 rfl w.heap.size 24 2 elemExpr _ _ _ rfl (hown2.1.alloc _) ⟨w2.heap.size, 0, none⟩ 1 (exRow (T.server x) (.slice (some ⟨nb, 0, none⟩) (T.server x).1.length ncap)) rfl rfl (blk_new_cells _ _ _) (by simp [exRow, Value.oneCell']) (by omega) (by simp; omega) ?_))
      rintro g cap w3 hown' hgrow hg
      have hown3 := OwnExs.snoc (hown2.keep (below_box w2 _)) (hN2.keep (below_box w2 _)) hgrow (by rw [hl]; exact hown')
      have hB4 := app_below hown2.1 hB3 hgrow
      clear hown2 hB3 hN2 hgrow hown' hg
      go_wp2_with fail
      go_roundw
      case rel =>
        refine ⟨i + 1, _, by go_num, by omega, ?_, hown3, ?_, hB4⟩
        · rw [List.length_append, hl]; rfl
        · rw [List.map_append, hm2]; rfl
      case measure => simp [intOf]; omega
    · obtain rfl : i = xs.length := by omega
      rw [List.take_length] at hm
      obtain ⟨ao, cap, rfl⟩ := owns_slice hown.1
      go_wp2_with fail
      go_ret
      exact ⟨_, l, rfl, hown, hm, hB⟩
end Go.Proofs.YtjjmnpgbcgkcpaaDoor
