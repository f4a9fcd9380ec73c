/-
  The check sum: the program's and the reference's.
-/
import Derived.Test.YtkhofblbifbidaaHash
set_option linter.unusedVariables false
namespace Go.Proofs.Ytkhofblbifbidaa
open Go.RowKit
namespace D
def poly : U := 0xedb88320
/-- one bit -/
def bit (r : U) : U := r >>> 1 ^^^ (poly &&& -(r &&& 1))
def bitn (r : U) : Nat → U
  | 0 => r
  | n + 1 => bit (bitn r n)
/-- the register behind k bytes -/
def crcN (s : List UInt8) : Nat → U
  | 0 => BitVec.allOnes 32
  | k + 1 => bitn (crcN s k ^^^ byt s k) 8
def crc (s : List UInt8) : U := ~~~ (crcN s s.length)
theorem test2 : crc [49, 50, 51, 52, 53, 54, 55, 56, 57] = 0xcbf43926 := by decide +kernel
theorem bit_and (r : U) : r &&& 1 = 0 ∨ r &&& 1 = 1 := by
  have h : (r &&& 1).toNat = r.toNat % 2 := by rw [BitVec.toNat_and]; exact Nat.and_one_is_mod _
  rcases Nat.mod_two_eq_zero_or_one r.toNat with h' | h'
  · exact Or.inl (BitVec.eq_of_toNat_eq (by rw [h, h']; rfl))
  · exact Or.inr (BitVec.eq_of_toNat_eq (by rw [h, h']; rfl))
theorem bit_odd (r : U) (h : r &&& 1 = 1) : bit r = r >>> 1 ^^^ poly := by unfold bit; rw [h]; congr 1
theorem bit_even (r : U) (h : r &&& 1 = 0) : bit r = r >>> 1 := by unfold bit; rw [h]; simp
end D

theorem wneg (a : U) : IntKind.u32.wrap (-(N a)) = N (-a) := by
  unfold N
  rw [IntKind.wrap_u32, BitVec.toNat_neg]
  have := a.isLt
  omega
theorem wpoly (a : U) : bits .and .u32 3988292384 (N a) = N (D.poly &&& a) := by
  have e : (3988292384 : Int) = N D.poly := by decide
  rw [e, wand]
theorem wand1 (a : U) : bits .and .u32 (N a) 1 = N (a &&& 1) := by
  have e : (1 : Int) = N 1 := by decide
  conv => lhs; rw [e]
  rw [wand]
theorem wxor_half (a b : U) : bits .xor .u32 (N a / 2) (N b) = N (a >>> 1 ^^^ b) := by
  have e : N a / (2 : Int) = N (a >>> 1) := by
    have h := wshr 1 a
    rwa [Int.pow_succ, Int.pow_zero, Int.one_mul] at h
  rw [e, wxor]

set_option maxRecDepth 100000 in
set_option maxHeartbeats 2000000 in
theorem crc_any (s : ByteArray) (w : World) (hs : s.size ≤ 10000000) :
    Calls Try.prog 8 #[.string s] w fun e w' => e = .returned (.int .u32 (N (D.crc s.data.toList))) ∧ w' = w := by
  have hl : s.data.toList.length = s.size := Array.length_toList
  have h0 : (4294967295 : Int) = N (D.crcN s.data.toList 0) := by
    show (4294967295 : Int) = N (BitVec.allOnes 32)
    decide
  have H0 : ∀ _ : Unit, (4294967295 : Int) = N (D.crcN s.data.toList 0) := fun _ => h0
  clear h0
  go_enter Try.func8, Try.ntmps8
  go_wp2_with fail
  go_loop [3, 4, 7] (fun r _ i => ∃ k : Nat, i = .int .i64 (k : Int) ∧ k ≤ s.size ∧ r = .int .u32 (N (D.crcN s.data.toList k))) (fun _ _ i => s.size - (intOf i).toNat)
  case atStart => exact ⟨0, rfl, by omega, by rw [← H0 ()]⟩
  case round =>
    clear H0
    obtain ⟨k, rfl, hk, rfl⟩ := hrel
    by_cases hlt : k < s.size
    · have hb := run_byte s k hlt (k : Int) rfl _ rfl
      have hs1 : D.crcN s.data.toList (k + 1) = D.bitn (D.crcN s.data.toList k ^^^ D.byt s.data.toList k) 8 := rfl
      generalize D.byt s.data.toList k = c at hb hs1
      obtain ⟨r, hr⟩ : ∃ r, D.crcN s.data.toList k = r := ⟨_, rfl⟩
      rw [hr] at hs1 ⊢
      have Hs : ∀ _ : Unit, D.crcN s.data.toList (k + 1) = D.bitn (r ^^^ c) 8 := fun _ => hs1
      clear hs1 hr
      have q0 := wrap_N
      have q1 := wxor
      go_wp2_with fail
      clear hb q0 q1
      go_loop [3, 16] (fun r' i => ∃ n : Nat, i = .int .i64 (n : Int) ∧ n ≤ 8 ∧ r' = .int .u32 (N (D.bitn (r ^^^ c) n))) (fun _ i => 8 - (intOf i).toNat)
      case atStart => exact ⟨0, rfl, by omega, rfl⟩
      case round =>
        obtain ⟨n, rfl, hn, rfl⟩ := hrel
        by_cases hlt2 : n < 8
        · have hs2 : D.bitn (r ^^^ c) (n + 1) = D.bit (D.bitn (r ^^^ c) n) := rfl
          generalize D.bitn (r ^^^ c) n = x at hs2
          unfold D.bit at hs2
          have Hs2 : ∀ _ : Unit, D.bitn (r ^^^ c) (n + 1) = x >>> 1 ^^^ (D.poly &&& -(x &&& 1)) := fun _ => hs2
          clear hs2
          go_upto_region 8 with fail
          have q0 := wneg
          have q1 := wpoly
          have q2 := wand1
          have q3 := wxor_half
          go_upto_region 9 with fail
          clear q0 q1 q2 q3
          go_wp2_with fail
          go_round
          case rel => exact ⟨n + 1, by go_num, by omega, by rw [Hs2 ()]; rfl⟩
          case measure => simp [intOf]; omega
        · obtain rfl : n = 8 := by omega
          go_wp2_with fail
          go_round
          case rel => exact ⟨k + 1, by go_num, by omega, by rw [Hs ()]⟩
          case measure => simp [intOf]; omega
    · obtain rfl : k = s.size := by omega
      have Hc : ∀ _ : Unit, D.crc s.data.toList = ~~~ (D.crcN s.data.toList s.size) := fun _ => by unfold D.crc; rw [hl]
      generalize D.crcN s.data.toList s.size = r at Hc
      have q3 := wnot
      go_wp2_with fail
      go_ret
      exact ⟨by rw [Hc ()]; rfl, rfl⟩

end Go.Proofs.Ytkhofblbifbidaa
