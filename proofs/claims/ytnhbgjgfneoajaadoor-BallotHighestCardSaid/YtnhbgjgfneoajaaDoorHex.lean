/-
  The digits of a sum; Sum, Hex, Short.
-/
import Derived.Test.YtnhbgjgfneoajaaDoorSum
import Derived.Laws.OwnMore
set_option linter.unusedVariables false
namespace Go.Proofs.YtnhbgjgfneoajaaDoor.Dg
open Go.RowKit
namespace D
def hexes : List UInt8 := [48, 49, 50, 51, 52, 53, 54, 55, 56, 57, 97, 98, 99, 100, 101, 102]
def dig (k : Nat) : UInt8 := hexes.getD k 0
/-- the digits of the first k bytes, in 64 places -/
def hx (l : List UInt8) : Nat → List UInt8
  | 0 => List.replicate 64 0
  | k + 1 => ((hx l k).set (2 * k) (dig ((l.getD k 0).toNat / 16))).set (2 * k + 1) (dig ((l.getD k 0).toNat % 16))
theorem hx_length (l : List UInt8) (k : Nat) : (hx l k).length = 64 := by
  induction k with
  | zero => simp [hx]
  | succ k ih => simp [hx, ih]
/-- the hexadecimal digits of a text's SHA-256 -/
def hex (s : List UInt8) : List UInt8 := hx (sum (absorb H0 s).1 (absorb H0 s).2 s.length) 32
end D

theorem run_arr (l : List UInt8) (A : Array Value) (hA : (bs l).toArray = A) (hl : l.length = 32) (i : Nat) (h : i < 32) (w : World) :
    (Instr.index 59 (.agg A) (.int .i64 i)).run Tryd.prog w = .ok (.int .u8 ((l.getD i 0).toNat : Int)) w := by
  subst hA
  have hu := Tryd.underlying59
  have h2 : (i : Int) < 32 := by omega
  obtain ⟨j, hj, hj2⟩ := Option.map_eq_some_iff.1 (show (Tryd.prog.info? 5).map (fun i => (i.size)) = some 1 from by kernel_rfl)
  simp [Instr.index, run_underlying hu, asIntOf, go_sem, sizeOf, typeInfo, hj, hj2]
  rw [if_pos h, bs_get l i (by omega)]
  simp

theorem run_dig (k : Nat) (n : Int) (h : k < 16) (hn : n = (k : Int)) (w : World) :
    (Instr.index 9 (.string ⟨#[48, 49, 50, 51, 52, 53, 54, 55, 56, 57, 97, 98, 99, 100, 101, 102]⟩) (.int .u8 n)).run Tryd.prog w = .ok (.int .u8 ((D.dig k).toNat : Int)) w := by
  subst hn
  have hu := Tryd.underlying9
  have h1 : ((S D.hexes)[k]'(by rw [S_size]; exact h)).toNat = (D.dig k).toNat := by
    have : ∀ q : Fin 16, ((S D.hexes)[q.val]'(by rw [S_size]; exact q.isLt)).toNat = (D.dig q.val).toNat := by decide +kernel
    exact this ⟨k, h⟩
  show (Instr.index 9 (.string (S D.hexes)) (.int .u8 (k : Int))).run Tryd.prog w = _
  have h2 : k < (S D.hexes).size := by rw [S_size]; exact h
  rw [← h1]
  simp [Instr.index, run_underlying hu, asIntOf, go_sem]
  rw [getElem?_pos (S D.hexes) k h2]
  rfl

theorem and15 (c : Nat) (h : c < 256) : bits .and .u8 (c : Int) 15 = ((c % 16 : Nat) : Int) := by
  have := bits_mask .u8 8 (by decide) wraps_u8 4 (by decide) (c : Int) (by omega) (by omega)
  simpa using this

set_option maxRecDepth 100000 in
set_option maxHeartbeats 2000000 in
theorem digits_any (l : List UInt8) (w : World) (hl : l.length = 32) :
    Calls Tryd.prog 37 #[.agg (bs l).toArray] w fun e w' => e = .returned (.string (S (D.hx l 32))) ∧ Below w.heap.size w w' := by
  go_enter Tryd.func37, Tryd.ntmps37
  go_upto_region 1 with fail
  generalize hw1 : w.alloc _ = w1
  have hA : Blk w.heap.size (bs l) 59 w1 := by rw [← hw1]; exact Blk.new (bs l) _ w
  have hB : Below w.heap.size w w1 := by rw [← hw1]; exact (Below.refl _ w).alloc (Nat.le_refl _) _
  clear hw1
  obtain ⟨A, hAA⟩ : ∃ A, (bs l).toArray = A := ⟨_, rfl⟩
  have HAA : ∀ _ : Unit, (bs l).toArray = A := fun _ => hAA
  rw [hAA]
  unfold Blk at hA
  rw [hAA] at hA
  have hsz : A.size = 32 := by rw [← hAA]; simp [bs, hl]
  clear hAA
  obtain ⟨i0, hi, hz0, hz1, hz2⟩ := info_parts infoByte
  have hmk : ∀ u : World, (Instr.makeSlice 66 (.int .i64 0) (.int .i64 64)).run Tryd.prog u =
      .ok (.slice (some ⟨u.heap.size, 0, none⟩) 0 64) (u.alloc (.cells (bs (D.hx l 0)).toArray 5)) := fun u => by
    have h := run_make (P := Tryd.prog) u 66 5 i0 (.int .u8 0) Tryd.underlying66 hi hz0 .i64 .i64 0 64 (by omega) (by omega) (by rw [hz2]; decide) (by decide)
    have e : madeCells (Value.int .u8 0).cells (Int.toNat 64 * i0.size) = (bs (D.hx l 0)).toArray := by
      rw [hz1]
      show madeCells #[.int .u8 0] 64 = (bs (List.replicate 64 0)).toArray
      kernel_rfl
    rw [e] at h
    exact h
  go_upto_region 2 with fail
  generalize hwv : w1.alloc _ = wv
  have hG : Blk w1.heap.size (bs (D.hx l 0)) 5 wv := by rw [← hwv]; exact Blk.new (bs (D.hx l 0)) _ w1
  have hA2 : wv.heap[w.heap.size]? = some (.cells A 59 (0, 0)) := by rw [← hwv, heap_alloc_old _ _ (Array.getElem?_eq_some_iff.1 hA).1]; exact hA
  have hB2 : Below w.heap.size w wv := by rw [← hwv]; exact hB.alloc hB.size _
  have hgs := hB.size
  clear hwv hA hmk hB
  generalize w1.heap.size = g at hG hgs
  go_wp2_with (refine wpList_load_row rfl 59 (.tmp 1) rfl w.heap.size rfl 59 A (0, 0) _ hA2 Tryd.underlying59 rfl (by rw [hsz]; kernel_rfl) ?_)
  clear hA2
  go_loopw [3, 5, 8] (fun v _ i wr => ∃ k : Nat, i = .int .i64 (k : Int) ∧ k ≤ 32 ∧ v = .slice (some ⟨g, 0, none⟩) (2 * k) 64 ∧ Blk g (bs (D.hx l k)) 5 wr ∧ Below w.heap.size w wr) (fun _ _ i _ => 32 - (intOf i).toNat)
  case atStart => exact ⟨0, rfl, by omega, rfl, hG, hB2⟩
  case round =>
    clear hG hB2
    obtain ⟨k, rfl, hk, rfl, hG, hB⟩ := hrel
    by_cases hlt : k < 32
    · have cl : ∀ j, j < 64 → wr.cell? ⟨g, j, none⟩ = some (.int .u8 (((D.hx l k).getD j 0).toNat : Int)) := fun j hj => by
        rw [hG.cell, bs_get _ _ (by rw [D.hx_length]; exact hj)]
      have c1 := cl (2 * k) (by omega)
      have c2 := cl (2 * k + 1) (by omega)
      have f1 := hG.free (2 * k)
      have f2 := hG.free (2 * k + 1)
      generalize ((D.hx l k).getD (2 * k) 0).toNat = o1 at c1
      generalize ((D.hx l k).getD (2 * k + 1) 0).toNat = o2 at c2
      have hs1 : D.hx l (k + 1) = ((D.hx l k).set (2 * k) (D.dig ((l.getD k 0).toNat / 16))).set (2 * k + 1) (D.dig ((l.getD k 0).toNat % 16)) := rfl
      have ka := run_arr l A (HAA ()) hl k hlt
      have hc : (l.getD k 0).toNat < 256 := (l.getD k 0).toNat_lt
      generalize (l.getD k 0).toNat = c at hs1 ka hc
      have HG := Lib.hid hG
      have Hs : ∀ _ : Unit, _ := fun _ => hs1
      clear hG cl hs1
      go_upto_region 5 with fail
      clear ka
      have d1 := fun w => run_dig (c / 16) ((c : Int) / 16) (by omega) (by omega) w
      have d2 := fun w => run_dig (c % 16) ((c : Int) % 16) (by omega) (by omega) w
      have d3 := and15 c hc
      generalize (D.dig (c / 16)) = e1 at d1 Hs
      generalize (D.dig (c % 16)) = e2 at d2 Hs
      have hroom : 2 * k + 2 ≤ 64 := by omega
      have HGa := HG.out.alloc (.cells #[.int .u8 (e1.toNat : Int), .int .u8 (e2.toNat : Int)] 5)
      have HGb := HGa.set (2 * k) (.int .u8 (e1.toNat : Int))
      have HGc := HGb.set (2 * k + 1) (.int .u8 (e2.toNat : Int))
      rw [bs_set, bs_set] at HGc
      have x1 := HGa.cell (2 * k)
      rw [bs_get _ _ (by rw [D.hx_length]; omega)] at x1
      have x2 := HGb.cell (2 * k + 1)
      rw [List.getElem?_set_ne (by omega), bs_get _ _ (by rw [D.hx_length]; omega)] at x2
      have y1 := HGa.free (2 * k)
      have y2 := HGb.free (2 * k + 1)
      rw [← Hs ()] at HGc
      have hBa := (hB.alloc hB.size (.cells #[.int .u8 (e1.toNat : Int), .int .u8 (e2.toNat : Int)] 5))
      have hBc := (hBa.setCell (p := ⟨g, 2 * k, none⟩) hgs (.int .u8 (e1.toNat : Int))).setCell (p := ⟨g, 2 * k + 1, none⟩) hgs (.int .u8 (e2.toNat : Int))
      generalize (D.hx l k).getD (2 * k) 0 = z1 at x1
      generalize (D.hx l k).getD (2 * k + 1) 0 = z2 at x2
      have HGc' := Lib.hid HGc
      clear HGa HGb HGc c1 c2 f1 f2
      go_region
      all_goals go_wp2_with fail
      all_goals go_roundw
      case rel => exact ⟨k + 1, by go_num, by omega, by rw [show 2 * (k + 1) = 2 * k + 2 by omega], HGc'.out.drew, hBc.drew⟩
      case measure => simp [intOf]; omega
    · obtain rfl : k = 32 := by omega
      obtain ⟨out, hout⟩ : ∃ out, D.hx l 32 = out := ⟨_, rfl⟩
      have hxl : out.length = 64 := by rw [← hout]; exact D.hx_length l 32
      rw [hout] at hG
      have Hout : ∀ _ : Unit, D.hx l 32 = out := fun _ => hout
      clear hout
      have hconv := run_convert_bytes_back (P := Tryd.prog) wr 66 9 5 ⟨g, 0, none⟩ 64 out Tryd.underlying66 Tryd.underlying5 Tryd.underlying9 (fun j hj => by
        have e2 : (⟨g, 0, none⟩ : Addr).add j = ⟨g, 0 + j, none⟩ := Addr.add_mid g 0 j
        rw [e2, Nat.zero_add, hG.cell, bs_get _ _ hj, List.getD_eq_getElem?_getD, List.getElem?_eq_getElem hj]
        rfl)
      rw [hxl] at hconv
      clear hG hxl
      go_wp2_with fail
      go_ret
      exact ⟨by rw [Hout ()]; rfl, hB⟩


/-- the sum of a whole text -/
def D.sumAll (s : List UInt8) : List UInt8 := D.sum (D.absorb D.H0 s).1 (D.absorb D.H0 s).2 s.length
theorem D.sumAll_length (s : List UInt8) : (D.sumAll s).length = 32 := by unfold D.sumAll D.sum; exact D.outs_length _ 32

set_option maxRecDepth 100000 in
set_option maxHeartbeats 1000000 in
theorem sumText_any (s : ByteArray) (w : World) (hs : s.size ≤ 10000000) :
    Calls Tryd.prog 38 #[.string s] w fun e w' => e = .returned (.agg (bs (D.sumAll s.data.toList)).toArray) ∧ Below w.heap.size w w' := by
  go_enter Tryd.func38, Tryd.ntmps38
  obtain ⟨out, hout⟩ : ∃ out, D.sumAll s.data.toList = out := ⟨_, rfl⟩
  have hol : out.length = 32 := by rw [← hout]; exact D.sumAll_length _
  have hs32 : ∀ l : List UInt8, l.length = 32 → (bs l).toArray.size = 32 := fun l h => by simp [bs, h]
  rw [hout]
  have Hout : ∀ _ : Unit, D.sumAll s.data.toList = out := fun _ => hout
  clear hout
  go_upto_region 1 with fail
  generalize hw1 : w.alloc _ = w1
  have hO : Blk w.heap.size (bs (List.replicate 32 0)) 59 w1 := by rw [← hw1]; exact Blk.new (bs (List.replicate 32 0)) _ w
  have hB : Below w.heap.size w w1 := by rw [← hw1]; exact (Below.refl _ w).alloc (Nat.le_refl _) _
  clear hw1
  have hos := hO.lt
  go_wp2_with fail
  refine (new_any w1).mono ?_
  rintro e w2 ⟨b, rfl, hb, hH, hB2⟩
  have hO2 := hO.keep hB2
  have hB3 := hB.trans (hB2.mono hB.size)
  have hbl := hH.2.lt
  clear hO hB hB2
  go_wp2_with fail
  refine (write_any b D.H0 [] 0 s w2 hH (by omega) (by simp)).mono ?_
  rintro e w3 ⟨rfl, hH3, hk3⟩
  have hO3 := hO2.keeps hk3 (by omega)
  have hB4 := hB3.trans (hk3.below (B := w.heap.size) (by omega) hbl)
  rw [List.nil_append, Nat.zero_add] at hH3
  have hl : s.data.toList.length = s.size := Array.length_toList
  have hrl : (D.absorb D.H0 s.data.toList).2.length ≤ 100000000 := by
    unfold D.absorb
    rw [D.feed_rest, List.length_drop, hl]; omega
  have P := sum_any b _ _ s.size w3 hH3 (by omega) hrl
  rw [← hl] at P
  have P2 : Calls Tryd.prog 47 #[.pointer (some ⟨b, 0, none⟩)] w3 fun e w' => e = .returned (.agg (bs out).toArray) ∧ Below w3.heap.size w3 w' := by
    rw [← Hout ()]; exact P
  have HP := Lib.hid P2
  clear P P2 hH3 hrl hH hk3 hO2 hB3
  go_wp2_with fail
  refine HP.out.mono ?_
  rintro e w4 ⟨rfl, hB5⟩
  have hOb := hO3.keep hB5
  have hB6 := hB4.trans (hB5.mono hB4.size)
  clear HP hO3 hB4 hB5
  go_wp2_with (refine wpList_store_row rfl 59 (.tmp 2) (.tmp 9) rfl w.heap.size (bs out).toArray rfl rfl 59 _ hOb (by rw [hs32 out hol]; kernel_rfl) (by rw [hs32 out hol, hs32 _ (by simp)]) (bs_one out) ?_)
  exact bodyPost_ret (results_cell_row rfl _ _ w.heap.size 59 (bs out).toArray (0, 0) _ rfl (setRow_heap _ _ _ _ _ _ hOb) Tryd.underlying59 rfl (by rw [hs32 out hol]; kernel_rfl)) rfl ⟨rfl, Below.setRow _ hB6 (Nat.le_refl _)⟩

set_option maxRecDepth 100000 in
set_option maxHeartbeats 1000000 in
theorem hex_any (s : ByteArray) (w : World) (hs : s.size ≤ 10000000) :
    Calls Tryd.prog 30 #[.string s] w fun e w' => e = .returned (.string (S (D.hx (D.sumAll s.data.toList) 32))) ∧ Below w.heap.size w w' := by
  have P := sumText_any s w hs
  have Hs := D.sumAll_length s.data.toList
  obtain ⟨out, hout⟩ : ∃ out, D.sumAll s.data.toList = out := ⟨_, rfl⟩
  rw [hout] at Hs P ⊢
  have HP := Lib.hid P
  clear P hout
  go_enter Tryd.func30, Tryd.ntmps30
  go_wp2_with fail
  refine HP.out.mono ?_
  rintro e w1 ⟨rfl, hB⟩
  go_wp2_with fail
  refine (digits_any out w1 Hs).mono ?_
  rintro e w2 ⟨rfl, hB2⟩
  go_wp2_with fail
  go_ret
  exact ⟨rfl, hB.trans (hB2.mono hB.size)⟩

set_option maxRecDepth 100000 in
set_option maxHeartbeats 1000000 in
theorem short_any (s : ByteArray) (w : World) (hs : s.size ≤ 10000000) :
    Calls Tryd.prog 32 #[.string s] w fun e w' => e = .returned (.string (S ((D.hx (D.sumAll s.data.toList) 32).take 16))) ∧ Below w.heap.size w w' := by
  have P := hex_any s w hs
  have hl := D.hx_length (D.sumAll s.data.toList) 32
  obtain ⟨out, hout⟩ : ∃ out, D.hx (D.sumAll s.data.toList) 32 = out := ⟨_, rfl⟩
  rw [hout] at hl P ⊢
  obtain ⟨x, hx⟩ : ∃ x, S out = x := ⟨_, rfl⟩
  have hxs : x.size = 64 := by rw [← hx, S_size, hl]
  have hxt : x.extract 0 16 = S (out.take 16) := by
    rw [← hx]
    apply ByteArray.ext
    apply Array.ext'
    simp [ByteArray.data_extract]
  rw [hx] at P
  rw [← hxt]
  have HP := Lib.hid P
  have hx16 : (16 : Int) ≤ x.size := by omega
  clear P hout hx hxt hl
  go_enter Tryd.func32, Tryd.ntmps32
  go_wp2_with fail
  refine HP.out.mono ?_
  rintro e w1 ⟨rfl, hB⟩
  go_wp2_with fail
  go_ret
  exact ⟨rfl, hB⟩

end Go.Proofs.YtnhbgjgfneoajaaDoor.Dg
