/-
  The reference's check sum is the program's.
-/
import Derived.Test.YtkhofblbifbidaaCrc
set_option linter.unusedVariables false
namespace Go.Proofs.Ytkhofblbifbidaa
open Go.RowKit

theorem half (a : U) : N a / 2 = N (a >>> 1) := by
  have h := wshr 1 a
  rwa [Int.pow_succ, Int.pow_zero, Int.one_mul] at h
theorem wxor_poly (a : U) : bits .xor .u32 (N a / 2) 3988292384 = N (a >>> 1 ^^^ D.poly) := by
  have e : (3988292384 : Int) = N D.poly := by decide
  rw [e, wxor_half]
theorem one_of {x : U} (h : x &&& 1 = 1) : bits .and .u32 (N x) 1 = 1 := by rw [wand1, h]; decide
theorem zero_of {x : U} (h : x &&& 1 = 0) : bits .and .u32 (N x) 1 = 0 := by rw [wand1, h]; decide
theorem valU {a b : Int} (h : a = b) : Value.int .u32 a = .int .u32 b := by rw [h]

set_option maxRecDepth 100000 in
set_option maxHeartbeats 2000000 in
theorem refCrc_any (s : ByteArray) (w : World) (hs : s.size ≤ 10000000) :
    Calls Try.prog 9 #[.string s] w fun e w' => e = .returned (.int .u32 (N (D.crc s.data.toList))) ∧ w' = w := by
  have hl : s.data.toList.length = s.size := Array.length_toList
  have h0 : (4294967295 : Int) = N (D.crcN s.data.toList 0) := by
    show (4294967295 : Int) = N (BitVec.allOnes 32)
    decide
  have H0 : ∀ _ : Unit, (4294967295 : Int) = N (D.crcN s.data.toList 0) := fun _ => h0
  clear h0
  go_enter Try.func9, Try.ntmps9
  go_wp2_with fail
  go_loop [3, 4, 5, 6] (fun r i _ _ => ∃ k : Nat, i = .int .i64 (k : Int) ∧ k ≤ s.size ∧ r = .int .u32 (N (D.crcN s.data.toList k))) (fun _ i _ _ => s.size - (intOf i).toNat)
  case atStart => exact ⟨0, rfl, by omega, by rw [← H0 ()]⟩
  case round =>
    clear H0
    obtain ⟨k, rfl, hk, rfl⟩ := hrel
    by_cases hlt : k < s.size
    · have hb := run_byte s k hlt (k : Int) rfl _ rfl
      have hs1 : D.crcN s.data.toList (k + 1) = D.bitn (D.crcN s.data.toList k ^^^ D.byt s.data.toList k) 8 := rfl
      generalize D.byt s.data.toList k = c at hb hs1
      obtain ⟨r, hr⟩ : ∃ r, D.crcN s.data.toList k = r := ⟨_, rfl⟩
      rw [hr] at hs1 ⊢
      have Hs : ∀ _ : Unit, D.crcN s.data.toList (k + 1) = D.bitn (r ^^^ c) 8 := fun _ => hs1
      clear hs1 hr
      have q0 := wrap_N
      have q1 := wxor
      go_wp2_with fail
      clear hb q0 q1
      go_loop [3, 5, 6] (fun r' i _ => ∃ n : Nat, i = .int .i64 (n : Int) ∧ n ≤ 8 ∧ r' = .int .u32 (N (D.bitn (r ^^^ c) n))) (fun _ i _ => 8 - (intOf i).toNat)
      case atStart => exact ⟨0, rfl, by omega, rfl⟩
      case round =>
        obtain ⟨n, rfl, hn, rfl⟩ := hrel
        by_cases hlt2 : n < 8
        · have hs2 : D.bitn (r ^^^ c) (n + 1) = D.bit (D.bitn (r ^^^ c) n) := rfl
          generalize D.bitn (r ^^^ c) n = x at hs2
          rcases D.bit_and x with hx | hx
          · rw [D.bit_even x hx] at hs2
            have Hs2 : ∀ _ : Unit, D.bitn (r ^^^ c) (n + 1) = x >>> 1 := fun _ => hs2
            have hz := zero_of hx
            clear hs2 hx
            go_wp2_with fail
            go_round
            case rel => exact ⟨n + 1, by go_num, by omega, by rw [Hs2 ()]; exact valU (half x)⟩
            case measure => simp [intOf]; omega
          · rw [D.bit_odd x hx] at hs2
            have Hs2 : ∀ _ : Unit, D.bitn (r ^^^ c) (n + 1) = x >>> 1 ^^^ D.poly := fun _ => hs2
            have hz := one_of hx
            have q := wxor_poly x
            clear hs2 hx
            go_wp2_with fail
            go_round
            case rel => exact ⟨n + 1, by go_num, by omega, by rw [Hs2 ()]⟩
            case measure => simp [intOf]; omega
        · obtain rfl : n = 8 := by omega
          go_wp2_with fail
          go_round
          case rel => exact ⟨k + 1, by go_num, by omega, by rw [Hs ()]⟩
          case measure => simp [intOf]; omega
    · obtain rfl : k = s.size := by omega
      have Hc : ∀ _ : Unit, D.crc s.data.toList = ~~~ (D.crcN s.data.toList s.size) := fun _ => by unfold D.crc; rw [hl]
      generalize D.crcN s.data.toList s.size = r at Hc
      have q3 := wnot
      go_wp2_with fail
      go_ret
      exact ⟨by rw [Hc ()]; rfl, rfl⟩

end Go.Proofs.Ytkhofblbifbidaa
