/-
  The check sum's register: one step is linear over xor, and takes different registers to different ones.
-/
import Derived.Test.YtkhofblbifbidaaCrc
set_option linter.unusedVariables false
namespace Go.Proofs.Ytkhofblbifbidaa
namespace D
theorem xor_and1 (a b : U) : (a ^^^ b) &&& 1 = (a &&& 1) ^^^ (b &&& 1) := by
  apply BitVec.eq_of_getLsbD_eq
  intro i hi
  simp only [BitVec.getLsbD_and, BitVec.getLsbD_xor]
  cases a.getLsbD i <;> cases b.getLsbD i <;> cases (1 : U).getLsbD i <;> rfl
theorem xor_shr1 (a b : U) : (a ^^^ b) >>> 1 = a >>> 1 ^^^ b >>> 1 := by
  apply BitVec.eq_of_getLsbD_eq
  intro i hi
  simp only [BitVec.getLsbD_ushiftRight, BitVec.getLsbD_xor]
theorem bit_xor (a b : U) : bit (a ^^^ b) = bit a ^^^ bit b := by
  have e := xor_and1 a b
  have s := xor_shr1 a b
  rcases bit_and a with ha | ha <;> rcases bit_and b with hb | hb <;> rw [ha, hb] at e
  · rw [bit_even _ e, bit_even _ ha, bit_even _ hb, s]
  · rw [bit_odd _ e, bit_even _ ha, bit_odd _ hb, s, BitVec.xor_assoc]
  · rw [bit_odd _ e, bit_odd _ ha, bit_even _ hb, s, BitVec.xor_assoc, BitVec.xor_assoc, BitVec.xor_comm poly]
  · rw [bit_even _ e, bit_odd _ ha, bit_odd _ hb, s, BitVec.xor_assoc, ← BitVec.xor_assoc poly, BitVec.xor_comm poly, BitVec.xor_assoc, BitVec.xor_self, BitVec.xor_zero]
theorem bitn_xor (a b : U) (n : Nat) : bitn (a ^^^ b) n = bitn a n ^^^ bitn b n := by
  induction n with
  | zero => rfl
  | succ n ih => simp only [bitn, ih, bit_xor]
theorem crcN_xor3 (x a b c : List UInt8) : ∀ k, (∀ i, i < k → byt x i = byt a i ^^^ byt b i ^^^ byt c i) → crcN x k = crcN a k ^^^ crcN b k ^^^ crcN c k
  | 0, _ => by simp only [crcN]; decide
  | k + 1, h => by
    have ih := crcN_xor3 x a b c k (fun i hi => h i (by omega))
    simp only [crcN]
    rw [ih, h k (by omega), ← bitn_xor, ← bitn_xor]
    congr 1
    ac_rfl
theorem not_xor3 (a b c : U) : ~~~(a ^^^ b ^^^ c) = ~~~a ^^^ ~~~b ^^^ ~~~c := by
  apply BitVec.eq_of_getLsbD_eq
  intro i hi
  simp only [BitVec.getLsbD_xor, BitVec.getLsbD_not, hi, decide_true, Bool.true_and]
  cases a.getLsbD i <;> cases b.getLsbD i <;> cases c.getLsbD i <;> rfl
theorem crc_xor3 (x a b c : List UInt8) (n : Nat) (hx : x.length = n) (ha : a.length = n) (hb : b.length = n) (hc : c.length = n) (h : ∀ i, i < n → byt x i = byt a i ^^^ byt b i ^^^ byt c i) :
    crc x = crc a ^^^ crc b ^^^ crc c := by
  unfold crc
  rw [hx, ha, hb, hc, crcN_xor3 x a b c n h, not_xor3]
end D
end Go.Proofs.Ytkhofblbifbidaa
