/-
  Codes of strings and of integers: the program's functions and the reference's.
-/
import Derived.Test.YtnhbgjgfneoajaaDoorRefPut
import Derived.Test.YtnhbgjgfneoajaaDoorStrMath
import Derived.Lib.Strings
set_option linter.unusedVariables false
namespace Go.Proofs.YtnhbgjgfneoajaaDoor
open Go.RowKit

/-- the string of some bytes -/
abbrev S (l : List UInt8) : ByteArray := ⟨l.toArray⟩
theorem L_S (l : List UInt8) : L (S l) = l := rfl
theorem S_L (s : ByteArray) : S (L s) = s := rfl
theorem S_size (l : List UInt8) : (S l).size = l.length := by show l.toArray.size = _; simp
theorem S_append (l : List UInt8) (s : ByteArray) : S l ++ s = S (l ++ L s) := by
  apply ByteArray.ext
  rw [ByteArray.data_append]
  simp
theorem S_ext {s t : ByteArray} (h : L s = L t) : s = t := by
  apply ByteArray.ext; exact Array.toList_inj.1 h

theorem retS {s t : ByteArray} (h : s = t) : Ending.returned (.string s) = .returned (.string t) := by rw [h]
theorem retI {a b : Int} (h : a = b) : Ending.returned (.int .i64 a) = .returned (.int .i64 b) := by rw [h]
theorem retU {a b : Int} (h : a = b) : Ending.returned (.int .u64 a) = .returned (.int .u64 b) := by rw [h]

set_option maxRecDepth 100000 in
set_option maxHeartbeats 1000000 in
theorem putString_any (s : ByteArray) (w : World) (hs : s.size ≤ 140737488355328) :
    Calls Tryd.prog 33 #[.string s] w fun e w' => e = .returned (.string (S (V.putStr (L s)))) ∧ Below w.heap.size w w' := by
  have hp := V.put_length s.size
  go_enter Tryd.func33, Tryd.ntmps33
  go_wp2_with (go_at_call 39; refine (Put_any _ _ (by omega)).mono ?_; rintro e w' ⟨rfl, hB⟩)
  go_ret
  exact ⟨retS (by rw [S_append, V.putStr, L_length]), hB⟩


theorem ret3s {s t : ByteArray} {b b' c c' : Int} (h1 : s = t) (h2 : b = b') (h3 : c = c') :
    Ending.returned (.tuple #[.string s, .int .i64 b, .int .i64 c]) = .returned (.tuple #[.string t, .int .i64 b', .int .i64 c']) := by rw [h1, h2, h3]
theorem ret3i {a a' b b' c c' : Int} (h1 : a = a') (h2 : b = b') (h3 : c = c') :
    Ending.returned (.tuple #[.int .i64 a, .int .i64 b, .int .i64 c]) = .returned (.tuple #[.int .i64 a', .int .i64 b', .int .i64 c']) := by rw [h1, h2, h3]

theorem S_extract (s : ByteArray) (k n : Nat) : s.extract k (k + n) = S (((L s).drop k).take n) := by
  apply S_ext
  rw [L_S, Lib.extract_data]
  simp



theorem unzig_even (n : Nat) (h : n % 2 = 0) : V.unzig n = ((n / 2 : Nat) : Int) := by unfold V.unzig; rw [if_pos h]
theorem unzig_odd (n : Nat) (h : ¬ n % 2 = 0) : V.unzig n = -((n / 2 : Nat) : Int) - 1 := by unfold V.unzig; rw [if_neg h]



theorem integer_bits (n : Nat) (hn : n < 18446744073709551616) :
    bits BinOp.xor IntKind.i64 ((n : Int) / 2) (wrap64 (-wrap64 (bits BinOp.and IntKind.u64 (n : Int) 1))) = V.unzig n := by
  rw [B.and1_u64 n hn, show (n : Int) / 2 = ((n / 2 : Nat) : Int) from by omega]
  by_cases h : n % 2 = 0
  · rw [unzig_even n h, h, show wrap64 (-wrap64 ((0 : Nat) : Int)) = 0 from by unfold wrap64; decide, B.xor_i64_0 _ (by omega)]
  · rw [unzig_odd n h, show n % 2 = 1 from by omega, show wrap64 (-wrap64 ((1 : Nat) : Int)) = -1 from by unfold wrap64; decide, B.xor_i64_m1 _ (by omega)]


end Go.Proofs.YtnhbgjgfneoajaaDoor
