/-
  Plain arithmetic of varints and of codes: no program in sight.
-/
import Init
namespace Go.Proofs.YtnhbgjgfneoajaaDoor.V

/-- the varint of a number below 128^(f+1) -/
def putF : Nat → Nat → List UInt8
  | 0, n => [UInt8.ofNat n]
  | f + 1, n => if n < 128 then [UInt8.ofNat n] else UInt8.ofNat (n % 128 + 128) :: putF f (n / 128)
/-- the varint of a number below 2^64 -/
def put (n : Nat) : List UInt8 := putF 9 n

theorem putF_small (f n : Nat) (h : n < 128) : putF f n = [UInt8.ofNat n] := by
  cases f with
  | zero => rfl
  | succ f => simp [putF, h]

theorem putF_big (f n : Nat) (h : ¬ n < 128) : putF (f + 1) n = UInt8.ofNat (n % 128 + 128) :: putF f (n / 128) := by
  rw [putF, if_neg h]

theorem putF_more (f : Nat) : ∀ n, n < 128 ^ (f + 1) → putF (f + 1) n = putF f n := by
  induction f with
  | zero => intro n h; rw [putF_small _ _ (by simpa using h), putF_small _ _ (by simpa using h)]
  | succ f ih =>
    intro n h
    by_cases h1 : n < 128
    · rw [putF_small _ _ h1, putF_small _ _ h1]
    · rw [putF_big _ _ h1, putF_big _ _ h1, ih (n / 128) (by rw [Nat.pow_succ] at h; omega)]

theorem put_small (n : Nat) (h : n < 128) : put n = [UInt8.ofNat n] := putF_small 9 n h
theorem put_big (n : Nat) (h : 128 ≤ n) (hn : n < 18446744073709551616) : put n = UInt8.ofNat (n % 128 + 128) :: put (n / 128) := by
  unfold put
  rw [putF_more 8 (n / 128) (by simp; omega), putF, if_neg (by omega)]

theorem putF_length (f : Nat) : ∀ n, (putF f n).length ≤ f + 1 := by
  induction f with
  | zero => intro n; simp [putF]
  | succ f ih => intro n; rw [putF]; split
                 · simp
                 · have := ih (n / 128); simp; omega
theorem putF_pos (f n : Nat) : 1 ≤ (putF f n).length := by
  cases f with
  | zero => simp [putF]
  | succ f => rw [putF]; split <;> simp
theorem put_length (n : Nat) : (put n).length ≤ 10 := putF_length 9 n
theorem put_pos (n : Nat) : 1 ≤ (put n).length := putF_pos 9 n

/-- reading a varint: at most f bytes more, i have been read, acc is their number -/
def getF : Nat → Nat → Nat → List UInt8 → Nat × Nat × Nat
  | 0, _, _, _ => (0, 0, 7)
  | _ + 1, _, _, [] => (0, 0, 9)
  | f + 1, i, acc, c :: l =>
    if 128 ≤ c.toNat then getF f (i + 1) (acc + (c.toNat - 128) * 128 ^ i) l
    else if i = 9 ∧ 1 < c.toNat then (0, 0, 7)
    else if c.toNat = 0 ∧ 0 < i then (0, 0, 2)
    else (acc + c.toNat * 128 ^ i, i + 1, 0)
/-- the number, its bytes, the error -/
def get (l : List UInt8) : Nat × Nat × Nat := getF 10 0 0 l

theorem getF_bound (f : Nat) : ∀ (i acc : Nat) (l : List UInt8), i + f = 10 → acc < 128 ^ i →
    (getF f i acc l).1 < 18446744073709551616 ∧ (getF f i acc l).2.1 ≤ i + l.length ∧ (getF f i acc l).2.1 ≤ 10 ∧ (getF f i acc l).2.2 ≤ 9 ∧ ((getF f i acc l).2.2 = 0 → i < (getF f i acc l).2.1) := by
  induction f with
  | zero => intro i acc l _ _; simp [getF]
  | succ f ih =>
    intro i acc l hi ha
    cases l with
    | nil => simp [getF]
    | cons c l =>
      rw [getF]
      have hc := c.toNat_lt
      split
      · rename_i h
        have h1 : acc + (c.toNat - 128) * 128 ^ i < 128 ^ (i + 1) := by
          have : (c.toNat - 128) * 128 ^ i ≤ 127 * 128 ^ i := Nat.mul_le_mul_right _ (by omega)
          rw [Nat.pow_succ]; omega
        have := ih (i + 1) _ l (by omega) h1
        simp only [List.length_cons]
        omega
      · split
        · simp
        · split
          · simp
          · rename_i h0 h1 h2
            refine ⟨?_, by simp, by simp; omega, by simp, fun _ => by simp⟩
            show acc + c.toNat * 128 ^ i < _
            by_cases h9 : i = 9
            · subst h9
              have : c.toNat * 128 ^ 9 ≤ 1 * 128 ^ 9 := Nat.mul_le_mul_right _ (by omega)
              simp at this ha
              omega
            · have h3 : acc + c.toNat * 128 ^ i < 128 ^ (i + 1) := by
                have : c.toNat * 128 ^ i ≤ 127 * 128 ^ i := Nat.mul_le_mul_right _ (by omega)
                rw [Nat.pow_succ]; omega
              have h4 : 128 ^ (i + 1) ≤ 128 ^ 9 := Nat.pow_le_pow_right (by omega) (by omega)
              simp at h4
              omega

theorem get_bound (l : List UInt8) : (get l).1 < 18446744073709551616 ∧ (get l).2.1 ≤ l.length ∧ (get l).2.1 ≤ 10 ∧ (get l).2.2 ≤ 9 ∧ ((get l).2.2 = 0 → 0 < (get l).2.1) := by
  have := getF_bound 10 0 0 l rfl (by simp)
  simpa [get] using this

/-- with an error the rest is zero -/
theorem getF_err (f : Nat) : ∀ (i acc : Nat) (l : List UInt8), (getF f i acc l).2.2 ≠ 0 → (getF f i acc l).1 = 0 ∧ (getF f i acc l).2.1 = 0 := by
  induction f with
  | zero => intro i acc l _; simp [getF]
  | succ f ih =>
    intro i acc l
    cases l with
    | nil => simp [getF]
    | cons c l =>
      rw [getF]
      split
      · exact ih _ _ _
      · split
        · simp
        · split <;> simp
theorem get_err (l : List UInt8) (h : (get l).2.2 ≠ 0) : (get l).1 = 0 ∧ (get l).2.1 = 0 := getF_err 10 0 0 l h

theorem ofNat_toNat (n : Nat) (h : n < 256) : (UInt8.ofNat n).toNat = n := by
  simp [UInt8.toNat_ofNat']; omega

/-- what is read back is what was written -/
theorem getF_putF (g : Nat) : ∀ (i acc n : Nat) (r : List UInt8), i + g = 9 → acc < 128 ^ i → n * 128 ^ i < 18446744073709551616 → (i = 0 ∨ 0 < n) →
    getF (g + 1) i acc (putF g n ++ r) = (acc + n * 128 ^ i, i + (putF g n).length, 0) := by
  induction g with
  | zero =>
    intro i acc n r hi ha hn h0
    have h9 : i = 9 := by omega
    subst h9
    have h1 : n ≤ 1 := by simp at hn; omega
    have hb := ofNat_toNat n (by omega)
    simp only [putF, List.cons_append, List.nil_append]
    rw [getF, hb, if_neg (by omega), if_neg (by omega), if_neg (by omega)]
    simp
  | succ g ih =>
    intro i acc n r hi ha hn h0
    by_cases h1 : n < 128
    · rw [putF_small _ _ h1]
      have hb := ofNat_toNat n (by omega)
      simp only [List.cons_append, List.nil_append]
      rw [getF, hb, if_neg (by omega), if_neg (by omega), if_neg (by omega)]
      simp
    · rw [putF, if_neg h1]
      have hb := ofNat_toNat (n % 128 + 128) (by omega)
      simp only [List.cons_append]
      rw [getF, hb, if_pos (by omega)]
      have e1 : (n % 128 + 128 - 128) = n % 128 := by omega
      have e2 : n / 128 * 128 ^ (i + 1) ≤ n * 128 ^ i := by
        rw [Nat.pow_succ, Nat.mul_comm (128 ^ i) 128, ← Nat.mul_assoc]
        exact Nat.mul_le_mul_right _ (Nat.div_mul_le_self n 128)
      have e3 : acc + n % 128 * 128 ^ i < 128 ^ (i + 1) := by
        have : n % 128 * 128 ^ i ≤ 127 * 128 ^ i := Nat.mul_le_mul_right _ (by omega)
        rw [Nat.pow_succ]; omega
      rw [e1, ih (i + 1) _ (n / 128) r (by omega) e3 (by omega) (Or.inr (by omega))]
      have e4 : n * 128 ^ i = n % 128 * 128 ^ i + n / 128 * 128 ^ (i + 1) := by
        have e5 : n % 128 + n / 128 * 128 = n := by omega
        rw [Nat.pow_succ, Nat.mul_comm (128 ^ i) 128, ← Nat.mul_assoc, ← Nat.add_mul, e5]
      simp only [List.length_cons]
      rw [e4]
      simp only [Prod.mk.injEq, and_true]
      omega

theorem get_put (n : Nat) (r : List UInt8) (hn : n < 18446744073709551616) : get (put n ++ r) = (n, (put n).length, 0) := by
  have e : n * 128 ^ 0 = n := by rw [Nat.pow_zero, Nat.mul_one]
  have h := getF_putF 9 0 0 n r rfl (by decide) (by rw [e]; exact hn) (Or.inl rfl)
  rw [e, Nat.zero_add, Nat.zero_add] at h
  exact h

end Go.Proofs.YtnhbgjgfneoajaaDoor.V
