/-
  The examples of the digest's chapter hold.
-/
import Derived.Test.YtkhofblbifbidaaHex
import Derived.Test.YtkhofblbifbidaaCrc
set_option linter.unusedVariables false
namespace Go.Proofs.Ytkhofblbifbidaa
open Go.RowKit

theorem aw_hex : D.hx (D.sumAll []) 32 = [101, 51, 98, 48, 99, 52, 52, 50, 57, 56, 102, 99, 49, 99, 49, 52, 57, 97, 102, 98, 102, 52, 99, 56, 57, 57, 54, 102, 98, 57, 50, 52, 50, 55, 97, 101, 52, 49, 101, 52, 54, 52, 57, 98, 57, 51, 52, 99, 97, 52, 57, 53, 57, 57, 49, 98, 55, 56, 53, 50, 98, 56, 53, 53] := by decide +kernel
theorem aw_short : (D.hx (D.sumAll [97, 98, 99]) 32).take 16 = [98, 97, 55, 56, 49, 54, 98, 102, 56, 102, 48, 49, 99, 102, 101, 97] := by decide +kernel
theorem aw_crc : N (D.crc [49, 50, 51, 52, 53, 54, 55, 56, 57]) = 3421780262 := by rw [D.test2]; decide

set_option maxRecDepth 100000 in
set_option maxHeartbeats 1000000 in
theorem digAwake_any (w : World) : Calls Try.prog 7 #[] w fun e w' => e = .returned (.bool true) ∧ Below w.heap.size w w' := by
  have P1 : ∀ w, Calls Try.prog 14 #[.string ⟨#[]⟩] w fun e w' => e = .returned (.string ⟨#[101, 51, 98, 48, 99, 52, 52, 50, 57, 56, 102, 99, 49, 99, 49, 52, 57, 97, 102, 98, 102, 52, 99, 56, 57, 57, 54, 102, 98, 57, 50, 52, 50, 55, 97, 101, 52, 49, 101, 52, 54, 52, 57, 98, 57, 51, 52, 99, 97, 52, 57, 53, 57, 57, 49, 98, 55, 56, 53, 50, 98, 56, 53, 53]⟩) ∧ Below w.heap.size w w' := fun w => by
    have h := hex_any ⟨#[]⟩ w (by decide)
    have e : D.hx (D.sumAll (ByteArray.mk #[]).data.toList) 32 = _ := aw_hex
    rw [e] at h; exact h
  have P2 : ∀ w, Calls Try.prog 15 #[.string ⟨#[97, 98, 99]⟩] w fun e w' => e = .returned (.string ⟨#[98, 97, 55, 56, 49, 54, 98, 102, 56, 102, 48, 49, 99, 102, 101, 97]⟩) ∧ Below w.heap.size w w' := fun w => by
    have h := short_any ⟨#[97, 98, 99]⟩ w (by decide)
    have e : (D.hx (D.sumAll (ByteArray.mk #[97, 98, 99]).data.toList) 32).take 16 = _ := aw_short
    rw [e] at h; exact h
  have P3 : ∀ w, Calls Try.prog 8 #[.string ⟨#[49, 50, 51, 52, 53, 54, 55, 56, 57]⟩] w fun e w' => e = .returned (.int .u32 3421780262) ∧ w' = w := fun w => by
    have h := crc_any ⟨#[49, 50, 51, 52, 53, 54, 55, 56, 57]⟩ w (by decide)
    have e : N (D.crc (ByteArray.mk #[49, 50, 51, 52, 53, 54, 55, 56, 57]).data.toList) = 3421780262 := aw_crc
    rw [e] at h; exact h
  go_enter Try.func7, Try.ntmps7
  go_wp2_with fail
  refine (P1 w).mono ?_
  rintro e w1 ⟨rfl, hB⟩
  go_wp2_with fail
  refine (P2 w1).mono ?_
  rintro e w2 ⟨rfl, hB2⟩
  go_wp2_with fail
  refine (P3 w2).mono ?_
  rintro e w3 ⟨rfl, rfl⟩
  go_wp2_with fail
  go_ret
  exact ⟨rfl, hB.trans (hB2.mono hB.size)⟩

end Go.Proofs.Ytkhofblbifbidaa
