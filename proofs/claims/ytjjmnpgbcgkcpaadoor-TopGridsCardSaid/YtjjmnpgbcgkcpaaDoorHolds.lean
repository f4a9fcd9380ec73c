/-
  What satisfies an expression; the servers of an expression.
-/
import Derived.Test.YtjjmnpgbcgkcpaaDoorValid
import Derived.Test.YtjjmnpgbcgkcpaaDoorIter
set_option linter.unusedVariables false
namespace Go.Proofs.YtjjmnpgbcgkcpaaDoor
open Go.RowKit

set_option maxHeartbeats 200000 in
theorem weight_any (d : Nd) (kv : Value) (k : Int) (w : World) :
    Calls Tryd.prog 33 #[.agg #[.int .i64 d.kind, .int .i64 d.server, .int .i64 d.need, .slice none 0 0, kv], .int .i64 k] w fun e w' => e = .returned (.int .i64 1) ∧ Below w.heap.size w w' := by
  go_enter Tryd.func33, Tryd.ntmps33
  go_upto_region 1 with fail
  generalize hw1 : World.alloc _ _ = w1
  have hQ : Blk w.heap.size (ndRow d kv) 59 w1 := by rw [← hw1]; exact Blk.new _ _ w
  have hB : Below w.heap.size w w1 := by rw [← hw1]; exact below_box _ _
  clear hw1
  have c3 := hQ.cell 3
  simp only [ndRow, List.getElem?_cons_zero, List.getElem?_cons_succ] at c3
  go_wp2_with fail
  go_ret
  exact ⟨rfl, hB⟩

namespace T
def bit (s : V) (j : Nat) : Bool := (s >>> j) &&& 1#16 == 1#16
def cntT (acc : List Bool) (ks : List Int) : Int := ((ks.countP fun k => acc.getD k.toNat false : Nat) : Int)
def evN (s : V) (acc : List Bool) (d : Nd) : Bool := if d.kind = 1 then bit s d.server.toNat else decide (d.need ≤ cntT acc d.kids)
def evs (s : V) (l : List Nd) : List Bool := l.foldl (fun acc d => acc ++ [evN s acc d]) []
def holds (x : Ex) (s : V) : Bool := (evs s (x.1.take (x.2.toNat + 1))).getD x.2.toNat false
theorem evs_snoc (s : V) (l : List Nd) (d : Nd) : evs s (l ++ [d]) = evs s l ++ [evN s (evs s l) d] := by unfold evs; rw [List.foldl_append]; rfl
theorem evs_len (s : V) : ∀ (n : Nat) (l : List Nd), l.length = n → (evs s l).length = n
  | 0, l, h => by
    have e := List.length_eq_zero_iff.1 h
    subst e; rfl
  | n + 1, l, h => by
    obtain ⟨l', x, rfl⟩ : ∃ l' x, l = l' ++ [x] := ⟨l.dropLast, l.getLast (by intro e; subst e; simp at h), (List.dropLast_concat_getLast _).symm⟩
    rw [evs_snoc, List.length_append, evs_len s n l' (by simpa using h)]; rfl
def sup (l : List Nd) : V := l.foldl (fun (a : V) (d : Nd) => if d.kind = 1 then (a ||| (1#16 <<< d.server.toNat) : V) else a) 0#16
theorem sup_snoc (l : List Nd) (d : Nd) : sup (l ++ [d]) = if d.kind = 1 then sup l ||| (1#16 <<< d.server.toNat) else sup l := by unfold sup; rw [List.foldl_append]; rfl
theorem cntT_take (acc : List Bool) (ks : List Int) (m : Nat) (h : m < ks.length) : cntT acc (ks.take (m + 1)) = cntT acc (ks.take m) + if acc.getD ks[m].toNat false then 1 else 0 := by
  unfold cntT
  rw [← List.take_append_getElem h, List.countP_append, List.countP_singleton]
  split <;> simp
theorem cntT_le (acc : List Bool) (ks : List Int) (m : Nat) : 0 ≤ cntT acc (ks.take m) ∧ cntT acc (ks.take m) ≤ ks.length := by
  unfold cntT
  have h1 : (ks.take m).countP (fun k => acc.getD k.toNat false) ≤ (ks.take m).length := List.countP_le_length
  rw [List.length_take] at h1
  omega
end T

theorem mshr (a : V) (j : Nat) : M a / (2 : Int) ^ j = M (a >>> j) := by
  unfold M
  rw [BitVec.toNat_ushiftRight, Nat.shiftRight_eq_div_pow, Int.natCast_ediv, Int.natCast_pow]
  rfl
theorem mbit (s : V) (j : Nat) : (bits .and .u16 (M s / (2 : Int) ^ j) 1 == 1) = T.bit s j := by
  rw [mshr]
  have h := mand (s >>> j) 1#16
  have e : M 1#16 = 1 := rfl
  rw [e] at h
  rw [h]
  unfold T.bit
  rw [Bool.eq_iff_iff, beq_iff_eq, beq_iff_eq]
  exact ⟨fun h => M_inj (by rw [h]; rfl), fun h => by rw [h]; rfl⟩

/-- the array of what the nodes are, so far -/
def bls (acc : List Bool) : List Value := (acc ++ List.replicate (60 - acc.length) false).map Value.bool
theorem bls_set (acc : List Bool) (b : Bool) (h : acc.length < 60) : (bls acc).set acc.length (.bool b) = bls (acc ++ [b]) := by
  unfold bls
  rw [← List.map_set, List.set_append_right _ _ (Nat.le_refl _), Nat.sub_self]
  have e : 60 - acc.length = (60 - (acc ++ [b]).length) + 1 := by rw [List.length_append]; simp; omega
  rw [e, List.replicate_succ, List.set_cons_zero, List.append_assoc]
  rfl
theorem bls_get (acc : List Bool) (j : Nat) (h : j < 60) (hl : acc.length ≤ 60) : (bls acc)[j]? = some (.bool (acc.getD j false)) := by
  unfold bls
  rw [List.getElem?_map]
  by_cases hj : j < acc.length
  · rw [List.getElem?_append_left hj, List.getElem?_eq_getElem hj, List.getD_eq_getElem?_getD, List.getElem?_eq_getElem hj]
    rfl
  · rw [List.getElem?_append_right (by omega), List.getElem?_replicate, if_pos (by omega), List.getD_eq_getElem?_getD, List.getElem?_eq_none (by omega)]
    rfl

theorem NodesAt.cap {w : World} {ao : Option Addr} {n cap : Nat} {ns : List Nd} (h : NodesAt w (.slice ao n cap) ns) : n ≤ cap ∧ cap ≤ maxLen := by
  obtain ⟨l, h1, h2, h0⟩ := h
  rcases h1.1.2 with ⟨_, h3⟩ | ⟨g, c, cur, hv, _, _, h3, h4, _⟩
  · omega
  · injection hv with _ e1 e2
    subst e1 e2
    exact ⟨h3, h4⟩

set_option maxRecDepth 100000 in
set_option maxHeartbeats 200000 in
theorem expServers_any (x : Ex) (nv : Value) (w : World) (hN : NodesAt w nv x.1) (hg : GoodX x) :
    Calls Tryd.prog 16 #[.agg #[nv, .int .i64 x.2]] w fun e w' => e = .returned (.int .u16 (M (T.sup x.1))) ∧ Below w.heap.size w w' := by
  obtain ⟨g1, ⟨g2, g3⟩, g4⟩ := hg
  obtain ⟨xs, r⟩ := x
  simp only at *
  obtain ⟨b, cap, rfl, hr⟩ := hN.rd
  clear hN
  have hz : ((xs.length : Int) == 0) = false := by rw [beq_eq_false_iff_ne]; omega
  go_enter Tryd.func16, Tryd.ntmps16
  go_upto_region 1 with fail
  generalize hw1 : World.alloc _ _ = w1
  have hQ : Blk w.heap.size [.slice (some ⟨b, 0, none⟩) xs.length cap, .int .i64 r] 24 w1 := by rw [← hw1]; exact Blk.new _ _ w
  have hB : Below w.heap.size w w1 := by rw [← hw1]; exact below_box _ _
  clear hw1
  have c0 := hQ.cell 0
  simp only [List.getElem?_cons_zero] at c0
  go_wp2_with fail
  clear c0
  go_loopw [3, 9] (fun o y wr => ∃ i : Nat, y = .int .i64 (i : Int) ∧ i ≤ xs.length ∧ o = .int .u16 (M (T.sup (xs.take i))) ∧ Below w.heap.size w wr) (fun _ y _ => xs.length - (intOf y).toNat)
  case atStart => exact ⟨0, rfl, by omega, rfl, hB⟩
  case round =>
    clear hQ hB
    obtain ⟨i, rfl, hi, rfl, hB⟩ := hrel
    by_cases hlt : i < xs.length
    · obtain ⟨kv, q1, q2⟩ := hr i xs[i] (List.getElem?_eq_getElem hlt)
      have q3 := g4 i xs[i] (List.getElem?_eq_getElem hlt)
      have hsn := T.sup_snoc (xs.take i) xs[i]
      rw [List.take_append_getElem hlt] at hsn
      generalize xs[i] = d at q1 q2 q3 hsn
      generalize T.sup (xs.take i) = acc at hsn ⊢
      have hS : ∀ _ : Unit, _ := fun _ => hsn
      clear hsn
      have q1 : wr.rangeAt b (i * 5) [.int .i64 d.kind, .int .i64 d.server, .int .i64 d.need, .slice none 0 0, kv] := range_keep q1 hB
      obtain ⟨ka, kc, rfl, _, _⟩ := id q2
      go_upto_region 4 with fail
      go_upto_region 5 with (refine wpList_load_mid rfl 59 (.tmp 11) rfl b (i * 5) rfl _ _ q1 Tryd.underlying59 rfl (by kernel_rfl) ?_)
      generalize hw2 : wr.alloc _ = w2
      have hD : Blk wr.heap.size (ndRow d (.slice ka d.kids.length kc)) 59 w2 := by rw [← hw2]; exact Blk.new _ _ wr
      have hB2 : Below w.heap.size w w2 := by rw [← hw2]; exact hB.alloc hB.size _
      clear hw2 hB q1 q2 hr g4
      obtain ⟨d0, d1, _, _, _⟩ := node_at hD
      clear hD
      rcases q3 with ⟨k1, _, _, k2, k3⟩ | ⟨k1, _⟩
      · have hS2 : ∀ _ : Unit, T.sup (xs.take (i + 1)) = acc ||| (1#16 <<< d.server.toNat) := fun _ => by rw [hS (), if_pos k1]
        rw [k1] at d0
        obtain ⟨j, hj⟩ : ∃ j : Nat, d.server = (j : Int) := ⟨d.server.toNat, by omega⟩
        rw [hj] at d1 hS2
        rw [Int.toNat_natCast] at hS2
        have hj2 : j < 32 := by omega
        have ho := or_one acc j hj2
        rw [show min j 16 = j by omega] at ho
        clear hS k1
        go_wp2_with fail
        go_roundw
        case rel => exact ⟨i + 1, by go_num, by omega, by rw [hS2 ()], hB2⟩
        case measure => simp [intOf]; omega
      · have hS2 : ∀ _ : Unit, T.sup (xs.take (i + 1)) = acc := fun _ => by rw [hS (), if_neg (by rw [k1]; decide)]
        rw [k1] at d0
        clear hS k1
        go_wp2_with fail
        go_roundw
        case rel => exact ⟨i + 1, by go_num, by omega, by rw [hS2 ()], hB2⟩
        case measure => simp [intOf]; omega
    · obtain rfl : i = xs.length := by omega
      rw [List.take_length]
      go_wp2_with fail
      go_ret
      exact ⟨rfl, hB⟩
end Go.Proofs.YtjjmnpgbcgkcpaaDoor
