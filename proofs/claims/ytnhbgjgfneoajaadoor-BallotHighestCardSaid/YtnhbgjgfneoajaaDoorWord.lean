/-
  Words of 32 bits: what the program's operations on uint32 do, told by BitVec 32; a region whose last operation alone writes.
-/
import Derived.Test.YtnhbgjgfneoajaaDoorProg
import Derived.WalkKit
import Derived.BigQuiet
import Derived.StillTailTactics
import Derived.Below
set_option linter.unusedVariables false
namespace Go.Proofs.YtnhbgjgfneoajaaDoor.Dg
open Go.RowKit

section
variable {P : Program} {ops : Array Oper} {w : World}
theorem still_of_quiet_one {o : Oper} {a : Act} {K : Act → Prop} (h : o.quiet P a (fun w' => w' = w) K) : o.still P a w K := by
  obtain ⟨v, hq, hn⟩ := h
  have hq := hq w rfl
  unfold Oper.quietAt at hq
  unfold Oper.still
  generalize (execOp a.eval o).run P w = r at *
  cases r with
  | ok n w' =>
    cases n <;> simp only [Oper.quietUpon, Oper.stillUpon] at hq ⊢
    case value u => obtain ⟨rfl, rfl⟩ := hq; exact ⟨rfl, hn⟩
    case skip => obtain ⟨rfl, rfl⟩ := hq; exact ⟨rfl, hn⟩
    case enter f args => obtain ⟨rfl, hc⟩ := hq; exact ⟨rfl, v, hc, hn⟩
  | halt x w' => simp only [Oper.quietUpon] at hq

theorem still_of_quiet {Q : Act → Prop} : ∀ {l : List Oper} {a : Act}, wpQuiet P ops (fun w' => w' = w) Q l a → wpStill P ops w Q l a := by
  intro l
  induction l with
  | nil => intro a h; exact h
  | cons o rest ih =>
    intro a h
    unfold wpQuiet at h
    unfold wpStill
    split
    · rename_i hw
      rw [if_pos hw] at h
      exact Oper.still_mono (fun _ h => ih h) (still_of_quiet_one h)
    · rename_i hw
      rw [if_neg hw] at h
      exact ih h

theorem region_tail {id : Nat} {Q : Exit → Act → World → Prop} {a : Act} {l : List Oper} (n : Nat) (hm : P.follows .mixedOrders = true) (hB : Region.lexTailB .any l.toArray n = true)
    (h : wpQuiet P l.toArray (fun w' => w' = w.drew) (fun a' => wpList P l.toArray Q (l.drop n) a' w.drew) (l.take n) a) : (Code.region id l.toArray true).wp P Q a w :=
  wp_region_still_tail n hm hB (still_of_quiet h)
end

/-- a word, and its value -/
abbrev U := BitVec 32
def N (a : U) : Int := (a.toNat : Int)
theorem N_def (a : U) : N a = (a.toNat : Int) := rfl
theorem N_lt (a : U) : N a < 4294967296 := by have := a.isLt; unfold N; omega
theorem N_ge (a : U) : 0 ≤ N a := by unfold N; omega
theorem N_inj {a b : U} (h : N a = N b) : a = b := BitVec.eq_of_toNat_eq (by unfold N at h; omega)
theorem N_of (n : Nat) (h : n < 4294967296) : N (BitVec.ofNat 32 n) = (n : Int) := by unfold N; rw [BitVec.toNat_ofNat]; omega

theorem wrap_nat (n : Nat) : IntKind.u32.wrap (n : Int) = N (BitVec.ofNat 32 n) := by
  unfold N; rw [IntKind.wrap_u32, BitVec.toNat_ofNat]; omega
theorem wrap_N (a : U) : IntKind.u32.wrap (N a) = N a := by unfold N; rw [IntKind.wrap_u32]; have := a.isLt; omega
theorem ofInt_N (a : U) : BitVec.ofInt 32 (N a) = a := by
  apply BitVec.eq_of_toNat_eq
  rw [BitVec.toNat_ofInt]
  unfold N
  have := a.isLt
  omega

theorem wadd (a b : U) : IntKind.u32.wrap (N a + N b) = N (a + b) := by
  unfold N
  rw [IntKind.wrap_u32, BitVec.toNat_add]; omega
theorem wxor (a b : U) : bits .xor .u32 (N a) (N b) = N (a ^^^ b) := by
  show IntKind.u32.wrap (((BitVec.ofInt 32 (N a)) ^^^ (BitVec.ofInt 32 (N b))).toNat : Int) = _
  rw [ofInt_N, ofInt_N]; exact wrap_N _
theorem wand (a b : U) : bits .and .u32 (N a) (N b) = N (a &&& b) := by
  show IntKind.u32.wrap (((BitVec.ofInt 32 (N a)) &&& (BitVec.ofInt 32 (N b))).toNat : Int) = _
  rw [ofInt_N, ofInt_N]; exact wrap_N _
theorem wor (a b : U) : bits .or .u32 (N a) (N b) = N (a ||| b) := by
  show IntKind.u32.wrap (((BitVec.ofInt 32 (N a)) ||| (BitVec.ofInt 32 (N b))).toNat : Int) = _
  rw [ofInt_N, ofInt_N]; exact wrap_N _
theorem wnot (a : U) : bits .xor .u32 (if IntKind.u32.signed = true then -1 else IntKind.u32.max) (N a) = N (~~~a) := by
  have e : (if IntKind.u32.signed = true then -1 else IntKind.u32.max) = N (BitVec.allOnes 32) := by decide
  rw [e, wxor, BitVec.allOnes_xor]
theorem wshr (k : Nat) (a : U) : N a / 2 ^ k = N (a >>> k) := by
  unfold N; rw [BitVec.toNat_ushiftRight, Nat.shiftRight_eq_div_pow]; simp
theorem wshl (k : Nat) (a : U) : IntKind.u32.wrap (N a * 2 ^ k) = N (a <<< k) := by
  unfold N; rw [IntKind.wrap_u32, BitVec.toNat_shiftLeft, Nat.shiftLeft_eq]; simp

theorem wor_shr (k : Nat) (a b : U) : bits .or .u32 (N a) (N b / 2 ^ k) = N (a ||| b >>> k) := by rw [wshr, wor]
theorem wxor_shr (k : Nat) (a b : U) : bits .xor .u32 (N a) (N b / 2 ^ k) = N (a ^^^ b >>> k) := by rw [wshr, wxor]
theorem retU4 {a b : Int} (h : a = b) : Ending.returned (.int .u32 a) = .returned (.int .u32 b) := by rw [h]

/-- the rotation to the right -/
def R (n : Nat) (a : U) : U := (a <<< (32 - n)) ||| (a >>> n)

/-- rotr by a number, as a contract -/
def Rotr (n : Int) (k : Nat) : Prop := ∀ (a : U) (w : World), Calls Tryd.prog 62 #[.int .u32 (N a), .int .i64 n] w fun e w' => e = .returned (.int .u32 (N (R k a))) ∧ w' = w

set_option maxHeartbeats 1000000 in
theorem rotr_2 : Rotr 2 2 := by
  intro a w
  have h2 : ∀ a b : U, bits .or .u32 (N a) (N b / 4) = N (a ||| b >>> 2) := wor_shr 2
  have h3 : ∀ a : U, IntKind.u32.wrap (N a * 1073741824) = N (a <<< 30) := wshl 30
  have h4 : bits .and .u64 (IntKind.u64.wrap (-2)) 31 = 30 := by kernel_rfl
  go_enter Tryd.func62, Tryd.ntmps62
  go_wp2_with fail
  have hc : Calls Tryd.prog 66 #[.int .u32 (N a), .int .i64 (-2)] w fun e w' => e = .returned (.int .u32 (N (R 2 a))) ∧ w' = w := by
    go_enter Tryd.func66, Tryd.ntmps66
    go_wp2_with fail
    go_ret
    exact ⟨rfl, rfl⟩
  refine hc.mono ?_
  rintro e w' ⟨rfl, rfl⟩
  go_wp2_with fail
  go_ret
  exact ⟨rfl, rfl⟩

set_option maxHeartbeats 1000000 in
theorem rotr_6 : Rotr 6 6 := by
  intro a w
  have h2 : ∀ a b : U, bits .or .u32 (N a) (N b / 64) = N (a ||| b >>> 6) := wor_shr 6
  have h3 : ∀ a : U, IntKind.u32.wrap (N a * 67108864) = N (a <<< 26) := wshl 26
  have h4 : bits .and .u64 (IntKind.u64.wrap (-6)) 31 = 26 := by kernel_rfl
  go_enter Tryd.func62, Tryd.ntmps62
  go_wp2_with fail
  have hc : Calls Tryd.prog 66 #[.int .u32 (N a), .int .i64 (-6)] w fun e w' => e = .returned (.int .u32 (N (R 6 a))) ∧ w' = w := by
    go_enter Tryd.func66, Tryd.ntmps66
    go_wp2_with fail
    go_ret
    exact ⟨rfl, rfl⟩
  refine hc.mono ?_
  rintro e w' ⟨rfl, rfl⟩
  go_wp2_with fail
  go_ret
  exact ⟨rfl, rfl⟩

set_option maxHeartbeats 1000000 in
theorem rotr_7 : Rotr 7 7 := by
  intro a w
  have h2 : ∀ a b : U, bits .or .u32 (N a) (N b / 128) = N (a ||| b >>> 7) := wor_shr 7
  have h3 : ∀ a : U, IntKind.u32.wrap (N a * 33554432) = N (a <<< 25) := wshl 25
  have h4 : bits .and .u64 (IntKind.u64.wrap (-7)) 31 = 25 := by kernel_rfl
  go_enter Tryd.func62, Tryd.ntmps62
  go_wp2_with fail
  have hc : Calls Tryd.prog 66 #[.int .u32 (N a), .int .i64 (-7)] w fun e w' => e = .returned (.int .u32 (N (R 7 a))) ∧ w' = w := by
    go_enter Tryd.func66, Tryd.ntmps66
    go_wp2_with fail
    go_ret
    exact ⟨rfl, rfl⟩
  refine hc.mono ?_
  rintro e w' ⟨rfl, rfl⟩
  go_wp2_with fail
  go_ret
  exact ⟨rfl, rfl⟩

set_option maxHeartbeats 1000000 in
theorem rotr_11 : Rotr 11 11 := by
  intro a w
  have h2 : ∀ a b : U, bits .or .u32 (N a) (N b / 2048) = N (a ||| b >>> 11) := wor_shr 11
  have h3 : ∀ a : U, IntKind.u32.wrap (N a * 2097152) = N (a <<< 21) := wshl 21
  have h4 : bits .and .u64 (IntKind.u64.wrap (-11)) 31 = 21 := by kernel_rfl
  go_enter Tryd.func62, Tryd.ntmps62
  go_wp2_with fail
  have hc : Calls Tryd.prog 66 #[.int .u32 (N a), .int .i64 (-11)] w fun e w' => e = .returned (.int .u32 (N (R 11 a))) ∧ w' = w := by
    go_enter Tryd.func66, Tryd.ntmps66
    go_wp2_with fail
    go_ret
    exact ⟨rfl, rfl⟩
  refine hc.mono ?_
  rintro e w' ⟨rfl, rfl⟩
  go_wp2_with fail
  go_ret
  exact ⟨rfl, rfl⟩

set_option maxHeartbeats 1000000 in
theorem rotr_13 : Rotr 13 13 := by
  intro a w
  have h2 : ∀ a b : U, bits .or .u32 (N a) (N b / 8192) = N (a ||| b >>> 13) := wor_shr 13
  have h3 : ∀ a : U, IntKind.u32.wrap (N a * 524288) = N (a <<< 19) := wshl 19
  have h4 : bits .and .u64 (IntKind.u64.wrap (-13)) 31 = 19 := by kernel_rfl
  go_enter Tryd.func62, Tryd.ntmps62
  go_wp2_with fail
  have hc : Calls Tryd.prog 66 #[.int .u32 (N a), .int .i64 (-13)] w fun e w' => e = .returned (.int .u32 (N (R 13 a))) ∧ w' = w := by
    go_enter Tryd.func66, Tryd.ntmps66
    go_wp2_with fail
    go_ret
    exact ⟨rfl, rfl⟩
  refine hc.mono ?_
  rintro e w' ⟨rfl, rfl⟩
  go_wp2_with fail
  go_ret
  exact ⟨rfl, rfl⟩

set_option maxHeartbeats 1000000 in
theorem rotr_17 : Rotr 17 17 := by
  intro a w
  have h2 : ∀ a b : U, bits .or .u32 (N a) (N b / 131072) = N (a ||| b >>> 17) := wor_shr 17
  have h3 : ∀ a : U, IntKind.u32.wrap (N a * 32768) = N (a <<< 15) := wshl 15
  have h4 : bits .and .u64 (IntKind.u64.wrap (-17)) 31 = 15 := by kernel_rfl
  go_enter Tryd.func62, Tryd.ntmps62
  go_wp2_with fail
  have hc : Calls Tryd.prog 66 #[.int .u32 (N a), .int .i64 (-17)] w fun e w' => e = .returned (.int .u32 (N (R 17 a))) ∧ w' = w := by
    go_enter Tryd.func66, Tryd.ntmps66
    go_wp2_with fail
    go_ret
    exact ⟨rfl, rfl⟩
  refine hc.mono ?_
  rintro e w' ⟨rfl, rfl⟩
  go_wp2_with fail
  go_ret
  exact ⟨rfl, rfl⟩

set_option maxHeartbeats 1000000 in
theorem rotr_18 : Rotr 18 18 := by
  intro a w
  have h2 : ∀ a b : U, bits .or .u32 (N a) (N b / 262144) = N (a ||| b >>> 18) := wor_shr 18
  have h3 : ∀ a : U, IntKind.u32.wrap (N a * 16384) = N (a <<< 14) := wshl 14
  have h4 : bits .and .u64 (IntKind.u64.wrap (-18)) 31 = 14 := by kernel_rfl
  go_enter Tryd.func62, Tryd.ntmps62
  go_wp2_with fail
  have hc : Calls Tryd.prog 66 #[.int .u32 (N a), .int .i64 (-18)] w fun e w' => e = .returned (.int .u32 (N (R 18 a))) ∧ w' = w := by
    go_enter Tryd.func66, Tryd.ntmps66
    go_wp2_with fail
    go_ret
    exact ⟨rfl, rfl⟩
  refine hc.mono ?_
  rintro e w' ⟨rfl, rfl⟩
  go_wp2_with fail
  go_ret
  exact ⟨rfl, rfl⟩

set_option maxHeartbeats 1000000 in
theorem rotr_19 : Rotr 19 19 := by
  intro a w
  have h2 : ∀ a b : U, bits .or .u32 (N a) (N b / 524288) = N (a ||| b >>> 19) := wor_shr 19
  have h3 : ∀ a : U, IntKind.u32.wrap (N a * 8192) = N (a <<< 13) := wshl 13
  have h4 : bits .and .u64 (IntKind.u64.wrap (-19)) 31 = 13 := by kernel_rfl
  go_enter Tryd.func62, Tryd.ntmps62
  go_wp2_with fail
  have hc : Calls Tryd.prog 66 #[.int .u32 (N a), .int .i64 (-19)] w fun e w' => e = .returned (.int .u32 (N (R 19 a))) ∧ w' = w := by
    go_enter Tryd.func66, Tryd.ntmps66
    go_wp2_with fail
    go_ret
    exact ⟨rfl, rfl⟩
  refine hc.mono ?_
  rintro e w' ⟨rfl, rfl⟩
  go_wp2_with fail
  go_ret
  exact ⟨rfl, rfl⟩

set_option maxHeartbeats 1000000 in
theorem rotr_22 : Rotr 22 22 := by
  intro a w
  have h2 : ∀ a b : U, bits .or .u32 (N a) (N b / 4194304) = N (a ||| b >>> 22) := wor_shr 22
  have h3 : ∀ a : U, IntKind.u32.wrap (N a * 1024) = N (a <<< 10) := wshl 10
  have h4 : bits .and .u64 (IntKind.u64.wrap (-22)) 31 = 10 := by kernel_rfl
  go_enter Tryd.func62, Tryd.ntmps62
  go_wp2_with fail
  have hc : Calls Tryd.prog 66 #[.int .u32 (N a), .int .i64 (-22)] w fun e w' => e = .returned (.int .u32 (N (R 22 a))) ∧ w' = w := by
    go_enter Tryd.func66, Tryd.ntmps66
    go_wp2_with fail
    go_ret
    exact ⟨rfl, rfl⟩
  refine hc.mono ?_
  rintro e w' ⟨rfl, rfl⟩
  go_wp2_with fail
  go_ret
  exact ⟨rfl, rfl⟩

set_option maxHeartbeats 1000000 in
theorem rotr_25 : Rotr 25 25 := by
  intro a w
  have h2 : ∀ a b : U, bits .or .u32 (N a) (N b / 33554432) = N (a ||| b >>> 25) := wor_shr 25
  have h3 : ∀ a : U, IntKind.u32.wrap (N a * 128) = N (a <<< 7) := wshl 7
  have h4 : bits .and .u64 (IntKind.u64.wrap (-25)) 31 = 7 := by kernel_rfl
  go_enter Tryd.func62, Tryd.ntmps62
  go_wp2_with fail
  have hc : Calls Tryd.prog 66 #[.int .u32 (N a), .int .i64 (-25)] w fun e w' => e = .returned (.int .u32 (N (R 25 a))) ∧ w' = w := by
    go_enter Tryd.func66, Tryd.ntmps66
    go_wp2_with fail
    go_ret
    exact ⟨rfl, rfl⟩
  refine hc.mono ?_
  rintro e w' ⟨rfl, rfl⟩
  go_wp2_with fail
  go_ret
  exact ⟨rfl, rfl⟩

end Go.Proofs.YtnhbgjgfneoajaaDoor.Dg
