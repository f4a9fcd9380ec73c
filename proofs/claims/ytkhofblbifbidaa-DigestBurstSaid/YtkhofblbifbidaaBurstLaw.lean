/-
  The plain law of DigestBurst: a change of at most 32 neighbouring bits never leaves the check sum as it was.
-/
import Derived.Test.YtkhofblbifbidaaCrcLaw
set_option linter.unusedVariables false
namespace Go.Proofs.Ytkhofblbifbidaa
namespace D
/-- one bit, over numbers of any width -/
def fN (x : Nat) : Nat := if x % 2 = 1 then x / 2 ^^^ 3988292384 else x / 2
def fNn (x : Nat) : Nat → Nat
  | 0 => x
  | n + 1 => fN (fNn x n)
theorem and1_mod (r : U) : (r &&& 1).toNat = r.toNat % 2 := by rw [BitVec.toNat_and]; exact Nat.and_one_is_mod _
theorem fN_bit (r : U) : (bit r).toNat = fN r.toNat := by
  have hm := and1_mod r
  have hs : (r >>> 1).toNat = r.toNat / 2 := by rw [BitVec.toNat_ushiftRight, Nat.shiftRight_eq_div_pow]
  rcases bit_and r with h | h
  · rw [bit_even _ h, hs]
    rw [h] at hm
    unfold fN
    rw [if_neg (by rw [← hm]; decide)]
  · rw [bit_odd _ h, BitVec.toNat_xor, hs]
    rw [h] at hm
    unfold fN
    rw [if_pos (by rw [← hm]; decide)]
    rfl
theorem fNn_bitn (r : U) (n : Nat) : (bitn r n).toNat = fNn r.toNat n := by
  induction n with
  | zero => rfl
  | succ n ih => simp only [bitn, fNn, fN_bit, ih]
theorem fN_xor (a b : Nat) : fN (a ^^^ b) = fN a ^^^ fN b := by
  have h1 : (a ^^^ b) / 2 = a / 2 ^^^ b / 2 := Nat.xor_div_two
  have h2 : (a ^^^ b) % 2 = 1 ↔ ¬ (a % 2 = 1 ↔ b % 2 = 1) := Nat.xor_mod_two_eq_one
  unfold fN
  rw [h1]
  by_cases ha : a % 2 = 1 <;> by_cases hb : b % 2 = 1
  · rw [if_neg (by rw [h2]; simp [ha, hb]), if_pos ha, if_pos hb]
    rw [Nat.xor_assoc, Nat.xor_comm (b / 2), ← Nat.xor_assoc 3988292384, Nat.xor_self, Nat.zero_xor]
  · rw [if_pos (by rw [h2]; simp [ha, hb]), if_pos ha, if_neg hb]
    ac_rfl
  · rw [if_pos (by rw [h2]; simp [ha, hb]), if_neg ha, if_pos hb]
    ac_rfl
  · rw [if_neg (by rw [h2]; simp [ha, hb]), if_neg ha, if_neg hb]
theorem fNn_xor (a b n : Nat) : fNn (a ^^^ b) n = fNn a n ^^^ fNn b n := by
  induction n with
  | zero => rfl
  | succ n ih => simp only [fNn, ih, fN_xor]
theorem fNn_shl (n : Nat) : ∀ x : Nat, fNn (x * 2 ^ n) n = x := by
  induction n with
  | zero => intro x; simp [fNn]
  | succ n ih =>
    intro x
    have e : x * 2 ^ (n + 1) = (x * 2) * 2 ^ n := by rw [Nat.pow_succ, Nat.mul_assoc, Nat.mul_comm 2]
    rw [e, fNn, ih (x * 2)]
    unfold fN
    rw [if_neg (by omega)]
    omega
theorem fNn_add (x m n : Nat) : fNn x (m + n) = fNn (fNn x m) n := by
  induction n with
  | zero => rfl
  | succ n ih => rw [← Nat.add_assoc]; simp only [fNn, ih]
/-- the difference of the registers behind n changed bytes -/
def dif (V : Nat) : Nat → U
  | 0 => 0
  | n + 1 => bitn (dif V n ^^^ BitVec.ofNat 32 (V / 256 ^ n % 256)) 8
theorem split8 (x : Nat) : x = (x % 256) ^^^ (x / 256 * 2 ^ 8) := by
  apply Nat.eq_of_testBit_eq
  intro i
  have h1 : (x % 256).testBit i = (decide (i < 8) && x.testBit i) := Nat.testBit_mod_two_pow x 8 i
  have h2 : (x / 256 * 2 ^ 8).testBit i = (decide (8 ≤ i) && x.testBit i) := by
    have e : x / 256 * 2 ^ 8 = (x >>> 8) <<< 8 := by rw [Nat.shiftLeft_eq, Nat.shiftRight_eq_div_pow]
    rw [e, Nat.testBit_shiftLeft, Nat.testBit_shiftRight]
    by_cases h : 8 ≤ i
    · have : 8 + (i - 8) = i := by omega
      rw [this]
    · simp [h]
  rw [Nat.testBit_xor, h1, h2]
  by_cases h : i < 8
  · have h8 : ¬ 8 ≤ i := by omega
    simp [h, h8]
  · simp [h, Nat.le_of_not_lt h]
theorem dif_wide (V n : Nat) : fNn V (8 * n) = (dif V n).toNat ^^^ V / 256 ^ n := by
  induction n with
  | zero => simp [fNn, dif]
  | succ n ih =>
    have e8 : 8 * (n + 1) = 8 * n + 8 := by omega
    have e2 : V / 256 ^ (n + 1) = V / 256 ^ n / 256 := by rw [Nat.pow_succ, Nat.div_div_eq_div_mul]
    rw [e8, fNn_add, ih]
    conv => lhs; rw [split8 (V / 256 ^ n), ← Nat.xor_assoc, fNn_xor, fNn_shl]
    rw [e2]
    congr 1
    rw [dif, fNn_bitn, BitVec.toNat_xor, BitVec.toNat_ofNat, Nat.mod_eq_of_lt (a := V / 256 ^ n % 256) (by omega)]
theorem bit_zero (x : U) (h : bit x = 0) : x = 0 := by
  have hs : (x >>> 1).toNat = x.toNat / 2 := by rw [BitVec.toNat_ushiftRight, Nat.shiftRight_eq_div_pow]
  have hx := x.isLt
  rcases bit_and x with h1 | h1
  · rw [bit_even _ h1] at h
    have hm := and1_mod x
    rw [h1] at hm
    have h2 := congrArg BitVec.toNat h
    rw [hs] at h2
    apply BitVec.eq_of_toNat_eq
    have h3 : (0 : U).toNat = 0 := rfl
    rw [h3] at h2 hm ⊢
    omega
  · rw [bit_odd _ h1] at h
    have h2 : x >>> 1 = poly := by
      have h3 : x >>> 1 ^^^ poly ^^^ poly = 0 ^^^ poly := by rw [h]
      rw [BitVec.xor_assoc, BitVec.xor_self, BitVec.xor_zero] at h3
      rw [h3]
      exact BitVec.zero_xor
    have h4 := congrArg BitVec.toNat h2
    rw [hs] at h4
    have h5 : poly.toNat = 3988292384 := rfl
    omega
theorem bitn_zero (x : U) : ∀ n, bitn x n = 0 → x = 0
  | 0, h => h
  | n + 1, h => bitn_zero x n (bit_zero _ h)
theorem dif_last (c k : Nat) (h0 : c ≠ 0) (hc : c < 4294967296) (hk : k < 8) : dif (c * 2 ^ k) 5 ≠ 0 := by
  intro hd
  have hw := dif_wide (c * 2 ^ k) 5
  have h2 : 2 ^ k ≤ 2 ^ 7 := Nat.pow_le_pow_right (by omega) (by omega)
  have hV : c * 2 ^ k / 256 ^ 5 = 0 := by
    apply Nat.div_eq_of_lt
    calc c * 2 ^ k ≤ c * 2 ^ 7 := Nat.mul_le_mul_left c h2
      _ < 256 ^ 5 := by omega
  rw [hd, hV] at hw
  have e : 8 * 5 = k + (40 - k) := by omega
  rw [e, fNn_add, fNn_shl] at hw
  have hb := fNn_bitn (BitVec.ofNat 32 c) (40 - k)
  rw [BitVec.toNat_ofNat, Nat.mod_eq_of_lt (by omega), hw] at hb
  have hz : bitn (BitVec.ofNat 32 c) (40 - k) = 0 := BitVec.eq_of_toNat_eq hb
  have h3 := congrArg BitVec.toNat (bitn_zero _ _ hz)
  rw [BitVec.toNat_ofNat, Nat.mod_eq_of_lt (by omega)] at h3
  exact h0 h3
/-- the bytes with the first n of five changes from byte i on -/
def burst (s : List UInt8) (i V : Nat) : Nat → List UInt8
  | 0 => s
  | n + 1 => (burst s i V n).set (i + n) ((burst s i V n).getD (i + n) 0 ^^^ UInt8.ofNat (V / 256 ^ n % 256))
theorem burst_length (s : List UInt8) (i V n : Nat) : (burst s i V n).length = s.length := by
  induction n with
  | zero => rfl
  | succ n ih => simp [burst, ih]
theorem burst_get (s : List UInt8) (i V j : Nat) (hj : j < s.length) : ∀ n, (burst s i V n).getD j 0 = if i ≤ j ∧ j < i + n then s.getD j 0 ^^^ UInt8.ofNat (V / 256 ^ (j - i) % 256) else s.getD j 0
  | 0 => by rw [if_neg (by omega)]; rfl
  | n + 1 => by
    have ih := burst_get s i V j hj n
    rw [burst, List.getD_eq_getElem?_getD, List.getElem?_set]
    by_cases e : i + n = j
    · subst e
      rw [if_pos rfl, if_pos (by rw [burst_length]; exact hj), ih, if_neg (by omega), if_pos (by omega), Nat.add_sub_cancel_left]
      rfl
    · rw [if_neg e, ← List.getD_eq_getElem?_getD, ih]
      by_cases h : i ≤ j ∧ j < i + n
      · rw [if_pos h, if_pos (by omega)]
      · rw [if_neg h, if_neg (by omega)]
theorem byt_xor8 (s t : List UInt8) (j d : Nat) (hd : d < 256) (h : t.getD j 0 = s.getD j 0 ^^^ UInt8.ofNat d) : byt t j = byt s j ^^^ BitVec.ofNat 32 d := by
  unfold byt
  rw [h]
  apply BitVec.eq_of_toNat_eq
  have hx := (s.getD j 0).toNat_lt
  have hxy := ((s.getD j 0) ^^^ UInt8.ofNat d).toNat_lt
  rw [BitVec.toNat_xor, BitVec.toNat_ofNat, BitVec.toNat_ofNat, BitVec.toNat_ofNat, Nat.mod_eq_of_lt (by omega), Nat.mod_eq_of_lt (by omega), Nat.mod_eq_of_lt (by omega), UInt8.toNat_xor, UInt8.toNat_ofNat', Nat.mod_eq_of_lt (by omega)]
theorem burst_crc (s : List UInt8) (i c k : Nat) (hi : i + 5 ≤ s.length) (h0 : c ≠ 0) (hc : c < 4294967296) (hk : k < 8) : crc (burst s i (c * 2 ^ k) 5) ≠ crc s := by
  have hl := burst_length s i (c * 2 ^ k) 5
  have hg := fun j hj => burst_get s i (c * 2 ^ k) j hj 5
  have hd := dif_last c k h0 hc hk
  generalize c * 2 ^ k = V at hl hg hd ⊢
  generalize burst s i V 5 = t at hl hg ⊢
  have a1 : ∀ j, j ≤ i → crcN t j = crcN s j := by
    intro j
    induction j with
    | zero => intro _; rfl
    | succ j ih =>
      intro hj
      have hb : byt t j = byt s j := by unfold byt; rw [hg j (by omega), if_neg (by omega)]
      simp only [crcN]
      rw [ih (by omega), hb]
  have a2 : ∀ n, n ≤ 5 → crcN t (i + n) = crcN s (i + n) ^^^ dif V n := by
    intro n
    induction n with
    | zero => intro _; rw [Nat.add_zero, a1 i (Nat.le_refl i)]; exact (BitVec.xor_zero).symm
    | succ n ih =>
      intro hn
      have hb : byt t (i + n) = byt s (i + n) ^^^ BitVec.ofNat 32 (V / 256 ^ n % 256) := by
        refine byt_xor8 s t (i + n) _ (by omega) ?_
        rw [hg (i + n) (by omega), if_pos (by omega), Nat.add_sub_cancel_left]
      rw [← Nat.add_assoc]
      simp only [crcN, dif]
      rw [ih (by omega), hb, ← bitn_xor]
      congr 1
      ac_rfl
  have a3 : ∀ m, i + 5 + m ≤ s.length → ∃ e : U, e ≠ 0 ∧ crcN t (i + 5 + m) = crcN s (i + 5 + m) ^^^ e := by
    intro m
    induction m with
    | zero => intro _; exact ⟨dif V 5, hd, a2 5 (Nat.le_refl 5)⟩
    | succ m ih =>
      intro hm
      obtain ⟨e, he, h⟩ := ih (by omega)
      have hb : byt t (i + 5 + m) = byt s (i + 5 + m) := by unfold byt; rw [hg _ (by omega), if_neg (by omega)]
      refine ⟨bitn e 8, fun hz => he (bitn_zero e 8 hz), ?_⟩
      rw [← Nat.add_assoc]
      simp only [crcN]
      rw [h, hb, ← bitn_xor]
      congr 1
      ac_rfl
  obtain ⟨e, he, h⟩ := a3 (s.length - (i + 5)) (by omega)
  rw [show i + 5 + (s.length - (i + 5)) = s.length by omega] at h
  unfold crc
  rw [hl, h]
  intro hn
  have h2 : crcN s s.length ^^^ e = crcN s s.length := by
    have h3 := congrArg (fun x : U => ~~~x) hn
    simpa using h3
  apply he
  have h4 : crcN s s.length ^^^ (crcN s s.length ^^^ e) = crcN s s.length ^^^ crcN s s.length := by rw [h2]
  rwa [← BitVec.xor_assoc, BitVec.xor_self, BitVec.zero_xor] at h4
end D
end Go.Proofs.Ytkhofblbifbidaa
