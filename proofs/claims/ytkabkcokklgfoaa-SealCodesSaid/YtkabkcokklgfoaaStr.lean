/-
  Codes of strings and of integers: the program's functions and the reference's.
-/
import Derived.Test.YtkabkcokklgfoaaRefPut
import Derived.Test.YtkabkcokklgfoaaStrMath
import Derived.Lib.Strings
set_option linter.unusedVariables false
namespace Go.Proofs.Ytkabkcokklgfoaa
open Go.RowKit

/-- the string of some bytes -/
abbrev S (l : List UInt8) : ByteArray := ⟨l.toArray⟩
theorem L_S (l : List UInt8) : L (S l) = l := rfl
theorem S_L (s : ByteArray) : S (L s) = s := rfl
theorem S_size (l : List UInt8) : (S l).size = l.length := by show l.toArray.size = _; simp
theorem S_append (l : List UInt8) (s : ByteArray) : S l ++ s = S (l ++ L s) := by
  apply ByteArray.ext
  rw [ByteArray.data_append]
  simp
theorem S_ext {s t : ByteArray} (h : L s = L t) : s = t := by
  apply ByteArray.ext; exact Array.toList_inj.1 h

theorem retS {s t : ByteArray} (h : s = t) : Ending.returned (.string s) = .returned (.string t) := by rw [h]
theorem retI {a b : Int} (h : a = b) : Ending.returned (.int .i64 a) = .returned (.int .i64 b) := by rw [h]
theorem retU {a b : Int} (h : a = b) : Ending.returned (.int .u64 a) = .returned (.int .u64 b) := by rw [h]

set_option maxRecDepth 100000 in
set_option maxHeartbeats 1000000 in
theorem putString_any (s : ByteArray) (w : World) (hs : s.size ≤ 140737488355328) :
    Calls Try.prog 21 #[.string s] w fun e w' => e = .returned (.string (S (V.putStr (L s)))) ∧ Below w.heap.size w w' := by
  have hp := V.put_length s.size
  go_enter Try.func21, Try.ntmps21
  go_wp2_with (go_at_call 34; refine (Put_any _ _ (by omega)).mono ?_; rintro e w' ⟨rfl, hB⟩)
  go_ret
  exact ⟨retS (by rw [S_append, V.putStr, L_length]), hB⟩

set_option maxRecDepth 100000 in
set_option maxHeartbeats 1000000 in
theorem refPutString_any (s : ByteArray) (w : World) (hs : s.size ≤ 140737488355328) :
    Calls Try.prog 23 #[.string s] w fun e w' => e = .returned (.string (S (V.putStr (L s)))) ∧ Below w.heap.size w w' := by
  have hp := V.put_length s.size
  go_enter Try.func23, Try.ntmps23
  go_wp2_with (go_at_call 35; refine (refPut_any _ _ (by omega)).mono ?_; rintro e w' ⟨rfl, hB⟩)
  go_ret
  exact ⟨retS (by rw [S_append, V.putStr, L_length]), hB⟩

theorem ret3s {s t : ByteArray} {b b' c c' : Int} (h1 : s = t) (h2 : b = b') (h3 : c = c') :
    Ending.returned (.tuple #[.string s, .int .i64 b, .int .i64 c]) = .returned (.tuple #[.string t, .int .i64 b', .int .i64 c']) := by rw [h1, h2, h3]
theorem ret3i {a a' b b' c c' : Int} (h1 : a = a') (h2 : b = b') (h3 : c = c') :
    Ending.returned (.tuple #[.int .i64 a, .int .i64 b, .int .i64 c]) = .returned (.tuple #[.int .i64 a', .int .i64 b', .int .i64 c']) := by rw [h1, h2, h3]

theorem S_extract (s : ByteArray) (k n : Nat) : s.extract k (k + n) = S (((L s).drop k).take n) := by
  apply S_ext
  rw [L_S, Lib.extract_data]
  simp

set_option maxRecDepth 100000 in
set_option maxHeartbeats 1000000 in
theorem getString_any (s : ByteArray) (w : World) (hs : s.size ≤ 140737488355328) :
    Calls Try.prog 30 #[.string s] w fun e w' => e = .returned (.tuple #[.string (S (V.getStr (L s)).1), .int .i64 (V.getStr (L s)).2.1, .int .i64 (V.getStr (L s)).2.2]) ∧ w = w' := by
  obtain ⟨r, hr⟩ : ∃ r, V.get (L s) = r := ⟨_, rfl⟩
  have G := get_any s w (by unfold maxLen; omega)
  have hb := V.get_bound (L s)
  have he := V.get_err (L s)
  unfold V.getStr
  rw [hr] at G hb he
  rw [hr]
  obtain ⟨n, k, e⟩ := r
  have hl := L_length s
  have Hl := Lib.hid hl; clear hl hr
  simp only [Hl.out] at hb
  obtain ⟨hb1, hb2, hb3, hb4, hb5⟩ := hb
  have HG := Lib.hid G; clear G
  by_cases hz : e = 0
  · subst hz; clear he hb5
    by_cases hn : s.size - k < n
    · go_enter Try.func30, Try.ntmps30
      go_wp2_with (go_at_call 39; refine HG.out.mono ?_; rintro e w' ⟨rfl, rfl⟩)
      go_ret3
      have e1 : V.strOf (L s) (n, k, 0) = ([], 0, 9) := by
        unfold V.strOf; rw [if_neg (by simp), if_pos (by rw [Hl.out]; exact hn)]
      exact ⟨by rw [e1]; rfl, rfl⟩
    · go_enter Try.func30, Try.ntmps30
      go_wp2_with (go_at_call 39; refine HG.out.mono ?_; rintro e w' ⟨rfl, rfl⟩)
      go_ret3
      have e1 : V.strOf (L s) (n, k, 0) = (((L s).drop k).take n, k + n, 0) := by
        unfold V.strOf; rw [if_neg (by simp), if_neg (by rw [Hl.out]; exact hn)]
      exact ⟨by rw [e1]; exact ret3s (S_extract s k n) (by simp) rfl, rfl⟩
  · have hz' : ((e : Int) != 0) = true := by simp; omega
    go_enter Try.func30, Try.ntmps30
    go_wp2_with (go_at_call 39; refine HG.out.mono ?_; rintro e w' ⟨rfl, rfl⟩)
    go_ret3
    have e1 : V.strOf (L s) (n, k, e) = ([], 0, e) := by
      unfold V.strOf; rw [if_pos hz]
    exact ⟨by rw [e1]; rfl, rfl⟩

set_option maxRecDepth 100000 in
set_option maxHeartbeats 1000000 in
theorem refGetString_any (s : ByteArray) (w : World) (hs : s.size ≤ 140737488355328) :
    Calls Try.prog 19 #[.string s] w fun e w' => e = .returned (.tuple #[.string (S (V.getStr (L s)).1), .int .i64 (V.getStr (L s)).2.1, .int .i64 (V.getStr (L s)).2.2]) ∧ w = w' := by
  obtain ⟨r, hr⟩ : ∃ r, V.get (L s) = r := ⟨_, rfl⟩
  have G := refGet_any s w (by unfold maxLen; omega)
  have hb := V.get_bound (L s)
  have he := V.get_err (L s)
  unfold V.getStr
  rw [hr] at G hb he
  rw [hr]
  obtain ⟨n, k, e⟩ := r
  have hl := L_length s
  have Hl := Lib.hid hl; clear hl hr
  simp only [Hl.out] at hb
  obtain ⟨hb1, hb2, hb3, hb4, hb5⟩ := hb
  have HG := Lib.hid G; clear G
  by_cases hz : e = 0
  · subst hz; clear he hb5
    by_cases hn : s.size - k < n
    · go_enter Try.func19, Try.ntmps19
      go_wp2_with (go_at_call 31; refine HG.out.mono ?_; rintro e w' ⟨rfl, rfl⟩)
      go_ret3
      have e1 : V.strOf (L s) (n, k, 0) = ([], 0, 9) := by
        unfold V.strOf; rw [if_neg (by simp), if_pos (by rw [Hl.out]; exact hn)]
      exact ⟨by rw [e1]; rfl, rfl⟩
    · go_enter Try.func19, Try.ntmps19
      go_wp2_with (go_at_call 31; refine HG.out.mono ?_; rintro e w' ⟨rfl, rfl⟩)
      go_ret3
      have e1 : V.strOf (L s) (n, k, 0) = (((L s).drop k).take n, k + n, 0) := by
        unfold V.strOf; rw [if_neg (by simp), if_neg (by rw [Hl.out]; exact hn)]
      exact ⟨by rw [e1]; exact ret3s (S_extract s k n) (by simp) rfl, rfl⟩
  · have hz' : ((e : Int) != 0) = true := by simp; omega
    go_enter Try.func19, Try.ntmps19
    go_wp2_with (go_at_call 31; refine HG.out.mono ?_; rintro e w' ⟨rfl, rfl⟩)
    go_ret3
    have e1 : V.strOf (L s) (n, k, e) = ([], 0, e) := by
      unfold V.strOf; rw [if_pos hz]
    exact ⟨by rw [e1]; rfl, rfl⟩

theorem unzig_even (n : Nat) (h : n % 2 = 0) : V.unzig n = ((n / 2 : Nat) : Int) := by unfold V.unzig; rw [if_pos h]
theorem unzig_odd (n : Nat) (h : ¬ n % 2 = 0) : V.unzig n = -((n / 2 : Nat) : Int) - 1 := by unfold V.unzig; rw [if_neg h]

set_option maxRecDepth 100000 in
set_option maxHeartbeats 1000000 in
theorem refInteger_any (n : Nat) (w : World) (hn : n < 18446744073709551616) :
    Calls Try.prog 32 #[.int .u64 n] w fun e w' => e = .returned (.int .i64 (V.unzig n)) ∧ w = w' := by
  by_cases h : n % 2 = 0
  · have h' : ((n : Int) % 2 == 0) = true := by simp; omega
    have Hz := Lib.hid (unzig_even n h)
    clear h
    go_enter Try.func32, Try.ntmps32
    go_wp2
    go_ret
    exact ⟨retI (by rw [Hz.out]; omega), rfl⟩
  · have h' : ((n : Int) % 2 == 0) = false := by simp; omega
    have Hz := Lib.hid (unzig_odd n h)
    clear h
    go_enter Try.func32, Try.ntmps32
    go_wp2
    go_ret
    exact ⟨retI (by rw [Hz.out]; omega), rfl⟩

set_option maxRecDepth 100000 in
set_option maxHeartbeats 1000000 in
theorem zigzag_any (n : Int) (w : World) (h1 : -9223372036854775808 ≤ n) (h2 : n ≤ 9223372036854775807) :
    Calls Try.prog 36 #[.int .i64 n] w fun e w' => e = .returned (.int .u64 (V.zig n)) ∧ w = w' := by
  by_cases h : 0 ≤ n
  · have Hz : Hid (V.zig n = (2 * n).toNat) := Lib.hid (by unfold V.zig; rw [if_pos h])
    go_enter Try.func36, Try.ntmps36
    go_wp2
    go_ret
    exact ⟨retU (by rw [Hz.out]; omega), rfl⟩
  · have Hz : Hid (V.zig n = (2 * (-(n + 1)) + 1).toNat) := Lib.hid (by unfold V.zig; rw [if_neg h])
    go_enter Try.func36, Try.ntmps36
    go_wp2
    go_ret
    exact ⟨retU (by rw [Hz.out]; omega), rfl⟩

theorem integer_bits (n : Nat) (hn : n < 18446744073709551616) :
    bits BinOp.xor IntKind.i64 ((n : Int) / 2) (wrap64 (-wrap64 (bits BinOp.and IntKind.u64 (n : Int) 1))) = V.unzig n := by
  rw [B.and1_u64 n hn, show (n : Int) / 2 = ((n / 2 : Nat) : Int) from by omega]
  by_cases h : n % 2 = 0
  · rw [unzig_even n h, h, show wrap64 (-wrap64 ((0 : Nat) : Int)) = 0 from by unfold wrap64; decide, B.xor_i64_0 _ (by omega)]
  · rw [unzig_odd n h, show n % 2 = 1 from by omega, show wrap64 (-wrap64 ((1 : Nat) : Int)) = -1 from by unfold wrap64; decide, B.xor_i64_m1 _ (by omega)]

set_option maxRecDepth 100000 in
set_option maxHeartbeats 1000000 in
theorem integer_any (s : ByteArray) (w : World) (hs : s.size ≤ 140737488355328) :
    Calls Try.prog 28 #[.string s] w fun e w' => e = .returned (.tuple #[.int .i64 (V.getInt (L s)).1, .int .i64 (V.getInt (L s)).2.1, .int .i64 (V.getInt (L s)).2.2]) ∧ w = w' := by
  obtain ⟨r, hr⟩ : ∃ r, V.get (L s) = r := ⟨_, rfl⟩
  have G := get_any s w (by unfold maxLen; omega)
  have hb := V.get_bound (L s)
  have he := V.get_err (L s)
  unfold V.getInt
  rw [hr] at G hb he
  rw [hr]
  obtain ⟨n, k, e⟩ := r
  have hl := L_length s
  have Hl := Lib.hid hl; clear hl hr
  simp only [Hl.out] at hb
  obtain ⟨hb1, hb2, hb3, hb4, hb5⟩ := hb
  have HG := Lib.hid G; clear G
  by_cases hz : e = 0
  · subst hz; clear he hb5
    go_enter Try.func28, Try.ntmps28
    go_wp2_with (go_at_call 39; refine HG.out.mono ?_; rintro e w' ⟨rfl, rfl⟩)
    go_ret3
    have e1 : V.intOf (n, k, 0) = (V.unzig n, k, 0) := by
      unfold V.intOf; rw [if_neg (by simp)]
    exact ⟨by rw [e1]; exact ret3i (integer_bits n hb1) rfl rfl, rfl⟩
  · have hz' : ((e : Int) != 0) = true := by simp; omega
    go_enter Try.func28, Try.ntmps28
    go_wp2_with (go_at_call 39; refine HG.out.mono ?_; rintro e w' ⟨rfl, rfl⟩)
    go_ret3
    have e1 : V.intOf (n, k, e) = (0, 0, e) := by
      unfold V.intOf; rw [if_pos hz]
    exact ⟨by rw [e1]; rfl, rfl⟩

end Go.Proofs.Ytkabkcokklgfoaa
