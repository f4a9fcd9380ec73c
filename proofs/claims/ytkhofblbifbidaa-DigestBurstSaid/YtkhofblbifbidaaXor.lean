/-
  The reference's Xor of two texts of one length.
-/
import Derived.Test.YtkhofblbifbidaaSum
import Derived.Laws.OwnMore
set_option linter.unusedVariables false
namespace Go.Proofs.Ytkhofblbifbidaa
open Go.RowKit
namespace D
def xors (a b : List UInt8) : Nat → List UInt8
  | 0 => List.replicate a.length 0
  | k + 1 => (xors a b k).set k (a.getD k 0 ^^^ b.getD k 0)
theorem xors_length (a b : List UInt8) (k : Nat) : (xors a b k).length = a.length := by
  induction k with
  | zero => simp [xors]
  | succ k ih => simp [xors, ih]
end D
theorem xor_u8 (x y : UInt8) : bits .xor .u8 (x.toNat : Int) (y.toNat : Int) = ((x ^^^ y).toNat : Int) := by
  show IntKind.u8.wrap (((BitVec.ofInt 8 (x.toNat : Int)) ^^^ (BitVec.ofInt 8 (y.toNat : Int))).toNat : Int) = _
  have hx := x.toNat_lt
  have hy := y.toNat_lt
  rw [BitVec.ofInt_natCast, BitVec.ofInt_natCast, BitVec.toNat_xor, BitVec.toNat_ofNat, BitVec.toNat_ofNat, Nat.mod_eq_of_lt (by omega), Nat.mod_eq_of_lt (by omega), UInt8.toNat_xor, IntKind.wrap_u8]
  have := Nat.xor_lt_two_pow (n := 8) hx hy
  omega

theorem run_byte8 (s : ByteArray) (i : Nat) (h : i < s.size) (w : World) :
    (Instr.index 9 (.string s) (.int .i64 (i : Int))).run Try.prog w = .ok (.int .u8 ((s.data.toList.getD i 0).toNat : Int)) w := by
  have e : s.data.toList.getD i 0 = s[i] := by
    rw [List.getD_eq_getElem?_getD, List.getElem?_eq_getElem (by rw [Array.length_toList]; exact h)]
    rfl
  rw [e]
  have hu := Try.underlying9
  simp [Instr.index, run_underlying hu, asIntOf, go_sem, h]

set_option maxRecDepth 100000 in
set_option maxHeartbeats 2000000 in
theorem refXor_any (a b : ByteArray) (w : World) (hab : b.size = a.size) (ha : a.size ≤ 1000000) :
    Calls Try.prog 10 #[.string a, .string b] w fun e w' => e = .returned (.string (S (D.xors a.data.toList b.data.toList a.size))) ∧ Below w.heap.size w w' := by
  have hl : a.data.toList.length = a.size := Array.length_toList
  obtain ⟨i0, hi, hz0, hz1, hz2⟩ := info_parts infoByte
  have hmk : ∀ u : World, (Instr.makeSlice 27 (.int .i64 (a.size : Int)) (.int .i64 (a.size : Int))).run Try.prog u =
      .ok (.slice (some ⟨u.heap.size, 0, none⟩) a.size a.size) (u.alloc (.cells (bs (D.xors a.data.toList b.data.toList 0)).toArray 5)) := fun u => by
    have h := run_make (P := Try.prog) u 27 5 i0 (.int .u8 0) Try.underlying27 hi hz0 .i64 .i64 (a.size : Int) (a.size : Int) (by omega) (by omega) (by rw [hz2]; omega) (by omega)
    have e : madeCells (Value.int .u8 0).cells ((a.size : Int).toNat * i0.size) = (bs (D.xors a.data.toList b.data.toList 0)).toArray := by
      rw [hz1, Nat.mul_one, Int.toNat_natCast]
      apply Array.ext'
      show (madeCells #[.int .u8 0] a.size).toList = _
      rw [toList_madeCells_one]
      simp [bs, D.xors]
    rw [e] at h
    simpa using h
  have hxl := D.xors_length a.data.toList b.data.toList
  rw [hl] at hxl
  go_enter Try.func10, Try.ntmps10
  go_upto_region 2 with fail
  generalize hw1 : w.alloc _ = w1
  have hG : Blk w.heap.size (bs (D.xors a.data.toList b.data.toList 0)) 5 w1 := by rw [← hw1]; exact Blk.new _ _ w
  have hB : Below w.heap.size w w1 := by rw [← hw1]; exact (Below.refl _ w).alloc (Nat.le_refl _) _
  clear hw1 hmk
  go_wp2_with fail
  go_loopw [6] (fun i wr => ∃ k : Nat, i = .int .i64 (k : Int) ∧ k ≤ a.size ∧ Blk w.heap.size (bs (D.xors a.data.toList b.data.toList k)) 5 wr ∧ Below w.heap.size w wr) (fun i _ => a.size - (intOf i).toNat)
  case atStart => exact ⟨0, rfl, by omega, hG, hB⟩
  case round =>
    clear hG hB
    obtain ⟨k, rfl, hk, hG, hB⟩ := hrel
    by_cases hlt : k < a.size
    · have ka := run_byte8 a k hlt
      have kb := run_byte8 b k (by omega)
      have hs1 : D.xors a.data.toList b.data.toList (k + 1) = (D.xors a.data.toList b.data.toList k).set k (a.data.toList.getD k 0 ^^^ b.data.toList.getD k 0) := rfl
      generalize a.data.toList.getD k 0 = x at ka hs1
      generalize b.data.toList.getD k 0 = y at kb hs1
      have q := xor_u8 x y
      have hm := hxl k
      have HG := hG.set k (.int .u8 ((x ^^^ y).toNat : Int))
      rw [bs_set, ← hs1] at HG
      have c1 := hG.cell k
      rw [bs_get _ _ (by omega)] at c1
      have f1 := hG.free k
      have hBs := hB.setCell (p := ⟨w.heap.size, k, none⟩) (Nat.le_refl _) (.int .u8 ((x ^^^ y).toNat : Int))
      generalize ((D.xors a.data.toList b.data.toList k).getD k 0).toNat = z at c1
      have HGd := Lib.hid HG
      clear hG hB hs1 hm HG
      go_upto_region 5 with fail
      refine region_tail 10 (by kernel_rfl) (by kernel_rfl) ?_
      simp only [List.take_succ_cons, List.take_zero, List.drop_succ_cons, List.drop_zero]
      repeat (first | go_big_quiet_skip | (go_big_quiet_want; go_big_quiet_op; first | go_big_quiet_on | (apply Exists.intro; refine And.intro ?_ ?_; (focus (fail)); go_big_quiet_on)))
      refine wpQuiet_nil ?_
      go_wp2_with fail
      go_roundw
      case rel => exact ⟨k + 1, by go_num, by omega, HGd.out.drew, hBs.drew⟩
      case measure => simp [intOf]; omega
    · obtain rfl : k = a.size := by omega
      obtain ⟨out, hout⟩ : ∃ out, D.xors a.data.toList b.data.toList a.size = out := ⟨_, rfl⟩
      have hml : out.length = a.size := by rw [← hout]; exact hxl _
      rw [hout] at hG
      have Hout : ∀ _ : Unit, D.xors a.data.toList b.data.toList a.size = out := fun _ => hout
      clear hout
      have hconv := run_convert_bytes_back (P := Try.prog) wr 27 9 5 ⟨w.heap.size, 0, none⟩ a.size out Try.underlying27 Try.underlying5 Try.underlying9 (fun j hj => by
        have e2 : (⟨w.heap.size, 0, none⟩ : Addr).add j = ⟨w.heap.size, 0 + j, none⟩ := Addr.add_mid w.heap.size 0 j
        rw [e2, Nat.zero_add, hG.cell, bs_get _ _ hj, List.getD_eq_getElem?_getD, List.getElem?_eq_getElem hj]
        rfl)
      rw [hml] at hconv
      clear hG
      go_wp2_with fail
      go_ret
      exact ⟨by rw [Hout ()]; rfl, hB⟩

end Go.Proofs.Ytkhofblbifbidaa
