/-
  What expressions are valid: those that a grid is made of are.
-/
import Derived.Test.YtjjmnpgbcgkcpaaDoorGrid
set_option linter.unusedVariables false
namespace Go.Proofs.YtjjmnpgbcgkcpaaDoor
open Go.RowKit

set_option maxHeartbeats 200000 in
theorem unknown_any (x at' : Int) (q : Nat) (w : World) (hq : w.cell? ⟨q, 0, none⟩ = some (.int .i64 at')) (h0 : 0 ≤ x) (h1 : x < at') :
    Calls Tryd.prog 42 #[.int .i64 x, .pointer (some ⟨q, 0, none⟩)] w fun e w' => e = .returned (.bool false) ∧ w' = w := by
  go_enter Tryd.func42, Tryd.ntmps42
  go_wp2_with fail
  go_ret
  refine ⟨?_, rfl⟩
  rw [decide_eq_false (by omega : ¬ x < 0), decide_eq_false (by omega : ¬ at' ≤ x)]
  rfl

set_option maxRecDepth 100000 in
set_option maxHeartbeats 200000 in
theorem index_none (fv : Value) (w : World) :
    Calls Tryd.prog 49 #[.slice none 0 0, fv] w fun e w' => e = .returned (.int .i64 (-1)) ∧ w' = w := by
  go_enter Tryd.func49, Tryd.ntmps49
  go_wp2_with fail
  go_loop [8] (fun x => x = .int .i64 0) (fun x => 0)
  case atStart => rfl
  case round =>
    obtain rfl := hrel
    go_wp2_with fail
    go_ret
    exact ⟨rfl, rfl⟩

set_option maxRecDepth 100000 in
set_option maxHeartbeats 200000 in
theorem index_unknown (v : Value) (xs : List Int) (at' : Int) (q : Nat) (w : World) (hv : Ints w v xs) (hn : xs.length ≤ 1000) (hq : w.cell? ⟨q, 0, none⟩ = some (.int .i64 at')) (hx : ∀ x, x ∈ xs → 0 ≤ x ∧ x < at') :
    Calls Tryd.prog 49 #[v, .func (.func 42) #[] #[.pointer (some ⟨q, 0, none⟩)]] w fun e w' => e = .returned (.int .i64 (-1)) ∧ w' = w := by
  obtain ⟨ao, cap, rfl, hc, _⟩ := hv
  go_enter Tryd.func49, Tryd.ntmps49
  go_wp2_with fail
  go_loopw [8] (fun x wr => ∃ i : Nat, x = .int .i64 (i : Int) ∧ i ≤ xs.length ∧ wr = w) (fun x _ => xs.length - (intOf x).toNat)
  case atStart => exact ⟨0, rfl, by omega, rfl⟩
  case round =>
    obtain ⟨i, rfl, hi, rfl⟩ := hrel
    by_cases hlt : i < xs.length
    · obtain ⟨b, off, rfl, hcell⟩ := hc i hlt
      have h1 := hx (xs.getD i 0) (by rw [List.getD_eq_getElem?_getD, List.getElem?_eq_getElem hlt]; exact List.getElem_mem hlt)
      unfold intAt at hcell
      generalize xs.getD i 0 = x at hcell h1
      have hP := unknown_any x at' q wr hq h1.1 h1.2
      clear hc hx
      go_wp2_with (refine hP.mono ?_; rintro e w2 ⟨rfl, hw⟩; rw [hw]; clear hw w2)
      go_roundw
      case rel => exact ⟨i + 1, by go_num, by omega, by first | rfl | trivial⟩
      case measure => simp [intOf]; omega
    · obtain rfl : i = xs.length := by omega
      go_wp2_with fail
      go_ret
      exact ⟨rfl, rfl⟩

set_option maxHeartbeats 200000 in
theorem contains_of (v : Value) (n : Nat) (fv : Value) (w : World) (h : Calls Tryd.prog 49 #[v, fv] w fun e w' => e = .returned (.int .i64 (-1)) ∧ w' = w) :
    Calls Tryd.prog 43 #[v, fv] w fun e w' => e = .returned (.bool false) ∧ w' = w := by
  go_enter Tryd.func43, Tryd.ntmps43
  go_wp2_with (go_at_call 49; refine h.mono ?_; rintro e w2 ⟨rfl, rfl⟩)
  go_ret
  exact ⟨rfl, rfl⟩

/-- a node that is valid at an index -/
def GoodN (d : Nd) (n : Nat) : Prop :=
  (d.kind = 1 ∧ d.need = 0 ∧ d.kids = [] ∧ 0 ≤ d.server ∧ d.server < 12) ∨ (d.kind = 2 ∧ d.server = 0 ∧ 0 ≤ d.need ∧ d.need ≤ 100000 ∧ d.kids.length ≤ 1000 ∧ ∀ k, k ∈ d.kids → 0 ≤ k ∧ k < (n : Int))

set_option maxRecDepth 100000 in
set_option maxHeartbeats 100000 in
theorem valid_any (d : Nd) (kv : Value) (n : Nat) (w : World) (hk : Ints w kv d.kids) (hg : GoodN d n) :
    Calls Tryd.prog 29 #[.agg #[.int .i64 d.kind, .int .i64 d.server, .int .i64 d.need, .slice none 0 0, kv], .int .i64 (n : Int)] w fun e w' => e = .returned (.int .i64 0) ∧ Below w.heap.size w w' := by
  obtain ⟨kind, server, need, kids⟩ := d
  obtain ⟨ao, cap, rfl, _, _⟩ := id hk
  simp only at hk hg ⊢
  go_enter Tryd.func29, Tryd.ntmps29
  go_upto_region 1 with fail
  generalize hw1 : World.alloc _ _ = w1
  have hQ : Blk w.heap.size [.int .i64 kind, .int .i64 server, .int .i64 need, .slice none 0 0, .slice ao kids.length cap] 59 w1 := by rw [← hw1]; exact (Blk.new _ _ w).alloc _
  have hq1 : Blk (w.heap.size + 1) [.int .i64 (n : Int)] 3 w1 := by
    rw [← hw1]
    have h := Blk.new [.int .i64 (n : Int)] 3 (w.alloc (.cells #[.int .i64 kind, .int .i64 server, .int .i64 need, .slice none 0 0, .slice ao kids.length cap] 59))
    rw [World.size_alloc] at h
    exact h
  have hB : Below w.heap.size w w1 := by rw [← hw1]; exact ((Below.refl _ w).alloc (Nat.le_refl _) _).alloc (by simp) _
  have hk1 := hk.keep hB
  clear hw1 hk
  have c0 := hQ.cell 0
  have c1 := hQ.cell 1
  have c2 := hQ.cell 2
  have c3 := hQ.cell 3
  have c4 := hQ.cell 4
  have c5 := hq1.cell 0
  simp only [List.getElem?_cons_zero, List.getElem?_cons_succ] at c0 c1 c2 c3 c4 c5
  have hH := contains_of _ 0 (.func (.func 41) #[] #[]) w1 (index_none _ w1)
  clear hQ hq1
  rcases hg with ⟨rfl, rfl, rfl, g1, g2⟩ | ⟨rfl, rfl, g1, g2, g3, g4⟩
  · have hU := contains_of _ 0 _ w1 (index_unknown _ [] (n : Int) (w.heap.size + 1) w1 hk1 (by simp) c5 (fun x hx => by cases hx))
    clear hk1
    go_wp2_with (first
      | (go_at_call 43; refine hH.mono ?_; clear hH; rintro e w2 ⟨rfl, hw⟩; rw [hw]; clear hw w2)
      | (go_at_call 43; refine hU.mono ?_; rintro e w2 ⟨rfl, hw⟩; rw [hw]; clear hw w2))
    go_ret
    exact ⟨rfl, hB⟩
  · have hU := contains_of _ 0 _ w1 (index_unknown _ kids (n : Int) (w.heap.size + 1) w1 hk1 g3 c5 g4)
    clear hk1
    go_wp2_with (first
      | (go_at_call 43; refine hH.mono ?_; clear hH; rintro e w2 ⟨rfl, hw⟩; rw [hw]; clear hw w2)
      | (go_at_call 43; refine hU.mono ?_; rintro e w2 ⟨rfl, hw⟩; rw [hw]; clear hw w2))
    go_ret
    exact ⟨rfl, hB⟩

/-- an expression that is valid -/
def GoodX (x : Ex) : Prop := x.1.length ≤ 60 ∧ (0 ≤ x.2 ∧ x.2 < (x.1.length : Int)) ∧ ∀ i d, x.1[i]? = some d → GoodN d i

set_option maxRecDepth 100000 in
set_option maxHeartbeats 200000 in
theorem Valid_any (x : Ex) (nv : Value) (w : World) (hN : NodesAt w nv x.1) (hg : GoodX x) :
    Calls Tryd.prog 14 #[.agg #[nv, .int .i64 x.2]] w fun e w' => e = .returned (.int .i64 0) ∧ Below w.heap.size w w' := by
  obtain ⟨g1, ⟨g2, g3⟩, g4⟩ := hg
  obtain ⟨xs, r⟩ := x
  simp only at *
  obtain ⟨b, cap, rfl, hr⟩ := hN.rd
  clear hN
  have hlen : 0 < xs.length := by omega
  have hz : ((xs.length : Int) == 0) = false := by rw [beq_eq_false_iff_ne]; omega
  go_enter Tryd.func14, Tryd.ntmps14
  go_upto_region 1 with fail
  generalize hw1 : World.alloc _ _ = w1
  have hQ : Blk w.heap.size [.slice (some ⟨b, 0, none⟩) xs.length cap, .int .i64 r] 24 w1 := by rw [← hw1]; exact Blk.new _ _ w
  have hB : Below w.heap.size w w1 := by rw [← hw1]; exact below_box _ _
  clear hw1
  have c0 := hQ.cell 0
  simp only [List.getElem?_cons_zero] at c0
  go_wp2_with fail
  clear c0
  go_loopw [17] (fun y wr => ∃ i : Nat, y = .int .i64 (i : Int) ∧ i ≤ xs.length ∧ Blk w.heap.size [.slice (some ⟨b, 0, none⟩) xs.length cap, .int .i64 r] 24 wr ∧ Below w.heap.size w wr) (fun y _ => xs.length - (intOf y).toNat)
  case atStart => exact ⟨0, rfl, by omega, hQ, hB⟩
  case round =>
    clear hQ hB
    obtain ⟨i, rfl, hi, hQ, hB⟩ := hrel
    by_cases hlt : i < xs.length
    · obtain ⟨kv, q1, q2⟩ := hr i xs[i] (List.getElem?_eq_getElem hlt)
      have q3 := g4 i xs[i] (List.getElem?_eq_getElem hlt)
      generalize xs[i] = d at q1 q2 q3
      have q1 : wr.rangeAt b (i * 5) [.int .i64 d.kind, .int .i64 d.server, .int .i64 d.need, .slice none 0 0, kv] := range_keep q1 hB
      have q2 := q2.keep hB
      obtain ⟨ka, kc, rfl, _, _⟩ := id q2
      go_upto_region 7 with fail
      go_upto_region 8 with (refine wpList_load_mid rfl 59 (.tmp 20) rfl b (i * 5) rfl _ _ q1 Tryd.underlying59 rfl (by kernel_rfl) ?_)
      generalize hw2 : wr.alloc _ = w2
      have hD : Blk wr.heap.size (ndRow d (.slice ka d.kids.length kc)) 59 w2 := by rw [← hw2]; exact Blk.new _ _ wr
      have hB2 : Below wr.heap.size wr w2 := by rw [← hw2]; exact below_box _ _
      have hQ2 := hQ.keep hB2
      have hB3 := hB.trans (hB2.mono hB.size)
      have hV := valid_any d _ i w2 (q2.keep hB2) q3
      clear hw2 hQ hB hB2 q1 q2 q3 hr g4
      obtain ⟨d0, d1, d2, d3, d4⟩ := node_at hD
      clear hD
      go_wp2_with (go_at_call 29; refine hV.mono ?_; clear hV; rintro e w3 ⟨rfl, hB4⟩; have hQ3 := hQ2.keep hB4; have hB5 := hB3.trans (hB4.mono hB3.size); clear hQ2 hB3 hB4)
      go_roundw
      case rel => exact ⟨i + 1, by go_num, by omega, hQ3, hB5⟩
      case measure => simp [intOf]; omega
    · obtain rfl : i = xs.length := by omega
      have c0 := hQ.cell 0
      have c1 := hQ.cell 1
      simp only [List.getElem?_cons_zero, List.getElem?_cons_succ] at c0 c1
      go_wp2_with fail
      go_ret
      exact ⟨rfl, hB⟩
end Go.Proofs.YtjjmnpgbcgkcpaaDoor
