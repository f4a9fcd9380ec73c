/-
  What satisfies an expression: the program's walk.
-/
import Derived.Test.YtjjmnpgbcgkcpaaDoorHolds
set_option linter.unusedVariables false
namespace Go.Proofs.YtjjmnpgbcgkcpaaDoor
open Go.RowKit

theorem ints_cells {w : World} {ao : Option Addr} {n cap : Nat} {xs : List Int} (h : Ints w (.slice ao n cap) xs) : Cells w ao xs.length (intAt xs) := by
  obtain ⟨a0, b0, e0, h0, _⟩ := h
  injection e0 with e1 _ _
  subst e1
  exact h0

set_option maxRecDepth 100000 in
set_option maxHeartbeats 400000 in
theorem holds_any (x : Ex) (nv : Value) (s : V) (w : World) (hN : NodesAt w nv x.1) (hg : GoodX x) :
    Calls Tryd.prog 17 #[.agg #[nv, .int .i64 x.2], .int .u16 (M s)] w fun e w' => e = .returned (.bool (T.holds x s)) ∧ Below w.heap.size w w' := by
  obtain ⟨g1, ⟨g2, g3⟩, g4⟩ := hg
  obtain ⟨xs, r⟩ := x
  simp only at *
  obtain ⟨b, cap, rfl, hr⟩ := hN.rd
  have hcap := hN.cap
  clear hN
  obtain ⟨rn, rfl⟩ : ∃ rn : Nat, r = (rn : Int) := ⟨r.toNat, by omega⟩
  have hz : ((xs.length : Int) == 0) = false := by rw [beq_eq_false_iff_ne]; omega
  have hH : ∀ _ : Unit, T.holds (xs, (rn : Int)) s = (T.evs s (xs.take (rn + 1))).getD rn false := fun _ => rfl
  go_enter Tryd.func17, Tryd.ntmps17
  go_upto_region 2 with fail
  generalize hw1 : World.alloc _ _ = w1
  have hX : Blk w.heap.size [.slice (some ⟨b, 0, none⟩) xs.length cap, .int .i64 (rn : Int)] 24 w1 := by rw [← hw1]; exact (Blk.new _ _ w).alloc _
  have hA : Blk (w.heap.size + 1) (bls []) 62 w1 := by
    rw [← hw1]
    have h := Blk.new (bls []) 62 (w.alloc (.cells #[.slice (some ⟨b, 0, none⟩) xs.length cap, .int .i64 (rn : Int)] 24))
    rw [World.size_alloc] at h
    exact h
  have hB : Below w.heap.size w w1 := by rw [← hw1]; exact ((Below.refl _ w).alloc (Nat.le_refl _) _).alloc (by simp) _
  clear hw1
  obtain ⟨p, hp⟩ : ∃ p, w.heap.size + 1 = p := ⟨_, rfl⟩
  rw [hp] at hA ⊢
  have hpw : w.heap.size ≤ p := by omega
  have c0 := hX.cell 0
  have c1 := hX.cell 1
  simp only [List.getElem?_cons_zero, List.getElem?_cons_succ] at c0 c1
  have hrn : (rn : Int) + 1 ≤ cap := by omega
  have hrn2 : rn < 60 := by omega
  go_upto_region 3 with fail
  clear c0 c1
  go_loopw [18] (fun y wr => ∃ i : Nat, y = .int .i64 (i : Int) ∧ i ≤ rn + 1 ∧ Blk w.heap.size [.slice (some ⟨b, 0, none⟩) xs.length cap, .int .i64 (rn : Int)] 24 wr ∧ Blk p (bls (T.evs s (xs.take i))) 62 wr ∧ Below w.heap.size w wr) (fun y _ => rn + 1 - (intOf y).toNat)
  case atStart => exact ⟨0, rfl, by omega, hX, hA, hB⟩
  case round =>
    clear hX hA hB
    obtain ⟨i, rfl, hi, hX, hA, hB⟩ := hrel
    by_cases hlt : i < rn + 1
    · have hix : i < xs.length := by omega
      obtain ⟨kv, q1, q2⟩ := hr i xs[i] (List.getElem?_eq_getElem hix)
      have q3 := g4 i xs[i] (List.getElem?_eq_getElem hix)
      have hsn := T.evs_snoc s (xs.take i) xs[i]
      rw [List.take_append_getElem hix] at hsn
      have hacc := T.evs_len s i (xs.take i) (by rw [List.length_take]; omega)
      generalize xs[i] = d at q1 q2 q3 hsn
      generalize T.evs s (xs.take i) = acc at hsn hacc hA
      have hS : ∀ _ : Unit, _ := fun _ => hsn
      clear hsn hr g4
      have q1 : wr.rangeAt b (i * 5) [.int .i64 d.kind, .int .i64 d.server, .int .i64 d.need, .slice none 0 0, kv] := range_keep q1 hB
      have q2 := q2.keep hB
      obtain ⟨ka, kc, rfl, _, _⟩ := id q2
      go_upto_region 4 with fail
      go_upto_region 5 with (refine wpList_load_mid rfl 59 (.tmp 21) rfl b (i * 5) rfl _ _ q1 Tryd.underlying59 rfl (by kernel_rfl) ?_)
      generalize hw2 : wr.alloc _ = w2
      have hD : Blk wr.heap.size (ndRow d (.slice ka d.kids.length kc)) 59 w2 := by rw [← hw2]; exact Blk.new _ _ wr
      have hB2 : Below wr.heap.size wr w2 := by rw [← hw2]; exact below_box _ _
      clear hw2 q1
      have hX2 := hX.keep hB2
      have hA2 := hA.keep hB2
      have q2 := q2.keep hB2
      have hBw := hB.trans (hB2.mono hB.size)
      have hpq : p < wr.heap.size := hA.lt
      clear hX hA hB hB2
      generalize wr.heap.size = q at hD hpq ⊢
      obtain ⟨d0, d1, d2, _, d4⟩ := node_at hD
      have a0 := hA2.cell i
      rw [bls_get acc i (by omega) (by omega)] at a0
      have f0 := hA2.free i
      rcases q3 with ⟨k1, _, _, k2, k3⟩ | ⟨k1, ks, k2, k3, k4, k5⟩
      · obtain ⟨j, hj⟩ : ∃ j : Nat, d.server = (j : Int) := ⟨d.server.toNat, by omega⟩
        have hj16 : min j 16 = j := by omega
        have hS2 : ∀ _ : Unit, T.evs s (xs.take (i + 1)) = acc ++ [bits .and .u16 (M s / (2 : Int) ^ j) 1 == 1] := fun _ => by
          rw [hS (), mbit]
          unfold T.evN
          rw [if_pos k1, hj, Int.toNat_natCast]
        rw [k1] at d0
        rw [hj] at d1
        have hset := hA2.set i (.bool (bits .and .u16 (M s / (2 : Int) ^ j) 1 == 1))
        have hbs := bls_set acc (bits .and .u16 (M s / (2 : Int) ^ j) 1 == 1) (by omega)
        rw [hacc] at hbs
        rw [hbs, ← hS2 ()] at hset
        have hX3 := hX2.other (c := p) i (.bool (bits .and .u16 (M s / (2 : Int) ^ j) 1 == 1)) (by omega)
        have hB3 := hBw.setCell (p := ⟨p, i, none⟩) hpw (.bool (bits .and .u16 (M s / (2 : Int) ^ j) 1 == 1))
        clear hS hS2 hbs k1 hA2 hX2 hBw hD d2 d4 q2 hj hH
        go_wp2_with fail
        go_roundw
        case rel => exact ⟨i + 1, by go_num, by omega, hX3, hset, hB3⟩
        case measure => simp [intOf]; omega
      · have hS2 : ∀ _ : Unit, T.evs s (xs.take (i + 1)) = acc ++ [decide (d.need ≤ T.cntT acc d.kids)] := fun _ => by
          rw [hS ()]
          unfold T.evN
          rw [if_neg (by rw [k1]; decide)]
        rw [k1] at d0
        clear hS k1 ks
        go_upto_region 9 with fail
        go_loopw [8, 37] (fun o y w0 => ∃ m : Nat, y = .int .i64 (m : Int) ∧ m ≤ d.kids.length ∧ o = .int .i64 (T.cntT acc (d.kids.take m)) ∧ Below w2.heap.size w2 w0) (fun _ y _ => d.kids.length - (intOf y).toNat)
        case atStart => exact ⟨0, rfl, by omega, rfl, Below.refl _ _⟩
        case round =>
          obtain ⟨m, rfl, hm, rfl, hB3⟩ := hrel
          by_cases hml : m < d.kids.length
          · obtain ⟨kb, ko, rfl, hkc⟩ := ints_cells (q2.keep hB3) m hml
            have hk := k5 d.kids[m] (List.getElem_mem hml)
            have hct := T.cntT_take acc d.kids m hml
            have hle := T.cntT_le acc d.kids m
            replace hkc : wr.cell? ⟨kb, ko + m, none⟩ = some (.int .i64 d.kids[m]) := by
              rw [hkc]
              unfold intAt
              rw [List.getD_eq_getElem?_getD, List.getElem?_eq_getElem hml]
              rfl
            generalize d.kids[m] = k at hk hct hkc
            generalize T.cntT acc (d.kids.take m) = sm at hct hle ⊢
            obtain ⟨kn, rfl⟩ : ∃ kn : Nat, k = (kn : Int) := ⟨k.toNat, by omega⟩
            rw [Int.toNat_natCast] at hct
            have hA3 := hA2.keep hB3
            have hD3 := hD.keep hB3
            have a1 := hA3.cell kn
            rw [bls_get acc kn (by omega) (by omega)] at a1
            obtain ⟨e0, e1, e2, e3, e4⟩ := node_at hD3
            clear hA3 hD3 d0 d1 d2 d4 a0 f0
            have hW := weight_any d (.slice (some ⟨kb, ko, none⟩) d.kids.length kc) (m : Int) wr
            cases hgb : acc.getD kn false with
            | true =>
              have hC : ∀ _ : Unit, T.cntT acc (d.kids.take (m + 1)) = sm + 1 := fun _ => by rw [hct, hgb]; rfl
              rw [hgb] at a1
              clear hct hgb
              go_wp2_with (go_at_call 33; refine hW.mono ?_; clear hW; rintro e w4 ⟨rfl, hB4⟩; have hB5 := hB3.trans (hB4.mono hB3.size); clear hB3 hB4)
              go_roundw
              case rel => exact ⟨m + 1, by go_num, by omega, by rw [hC ()], hB5⟩
              case measure => simp [intOf]; omega
            | false =>
              have hC : ∀ _ : Unit, T.cntT acc (d.kids.take (m + 1)) = sm := fun _ => by rw [hct, hgb]; simp
              rw [hgb] at a1
              clear hct hgb hW
              go_wp2_with fail
              go_roundw
              case rel => exact ⟨m + 1, by go_num, by omega, by rw [hC ()], hB3⟩
              case measure => simp [intOf]; omega
          · obtain rfl : m = d.kids.length := by omega
            rw [List.take_length]
            have hA3 := hA2.keep hB3
            have hX3 := hX2.keep hB3
            have hBw3 := hBw.trans (hB3.mono hBw.size)
            have d2' := (hD.keep hB3).cell 2
            simp only [ndRow, List.getElem?_cons_zero, List.getElem?_cons_succ] at d2'
            have a1 := hA3.cell i
            rw [bls_get acc i (by omega) (by omega)] at a1
            have f1 := hA3.free i
            generalize T.cntT acc d.kids = sm at hS2 ⊢
            have hset := hA3.set i (.bool (decide (d.need ≤ sm)))
            have hbs := bls_set acc (decide (d.need ≤ sm)) (by omega)
            rw [hacc] at hbs
            rw [hbs, ← hS2 ()] at hset
            have hX4 := hX3.other (c := p) i (.bool (decide (d.need ≤ sm))) (by omega)
            have hB4 := hBw3.setCell (p := ⟨p, i, none⟩) hpw (.bool (decide (d.need ≤ sm)))
            clear hA2 hA3 hX2 hX3 hBw hBw3 hD d0 d1 d2 d4 a0 f0 hS2 hbs hB3 q2 hH
            go_wp2_with fail
            go_roundw
            case rel => exact ⟨i + 1, by go_num, by omega, hX4, hset, hB4⟩
            case measure => simp [intOf]; omega
    · obtain rfl : i = rn + 1 := by omega
      have hev := T.evs_len s (rn + 1) (xs.take (rn + 1)) (by rw [List.length_take]; omega)
      generalize T.evs s (xs.take (rn + 1)) = acc at hH hev hA
      have c1 := hX.cell 1
      simp only [List.getElem?_cons_zero, List.getElem?_cons_succ] at c1
      have a1 := hA.cell rn
      rw [bls_get acc rn (by omega) (by omega)] at a1
      generalize acc.getD rn false = bv at a1 hH
      clear hX hA hr g4 hev
      go_wp2_with fail
      go_ret
      exact ⟨by rw [hH ()]; rfl, hB⟩
end Go.Proofs.YtjjmnpgbcgkcpaaDoor
