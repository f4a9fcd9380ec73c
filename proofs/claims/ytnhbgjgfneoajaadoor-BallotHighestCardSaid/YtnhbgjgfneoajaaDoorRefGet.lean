/-
  The reference's Get and Put: the same varints.
-/
import Derived.Test.YtnhbgjgfneoajaaDoorPut
set_option linter.unusedVariables false
namespace Go.Proofs.YtnhbgjgfneoajaaDoor
open Go.RowKit

/-- the reference's loop: k bytes are read, N is their number, U is 128^k (unless ten are read) -/
def RRel (s : ByteArray) (k : Nat) (N U : Int) : Prop :=
  (k = 10 ∧ V.get (L s) = (0, 0, 7)) ∨ (k ≤ 9 ∧ ∃ acc : Nat, N = acc ∧ U = (128 ^ k : Nat) ∧ acc < 128 ^ k ∧ V.getF (10 - k) k acc ((L s).drop k) = V.get (L s))

theorem rrel_start (s : ByteArray) : RRel s 0 0 1 := Or.inr ⟨by omega, 0, rfl, rfl, by simp, rfl⟩

theorem rrel_open {s : ByteArray} {k : Nat} {N U : Int} (h : RRel s k N U) (h1 : k < s.size) (h2 : k < 10) :
    ∃ acc : Nat, N = acc ∧ U = (128 ^ k : Nat) ∧ acc < 128 ^ k ∧ V.getF (10 - k) k acc (s[k] :: (L s).drop (k + 1)) = V.get (L s) := by
  rcases h with ⟨h, _⟩ | ⟨_, acc, hN, hU, ha, hg⟩
  · omega
  · rw [L_drop s k h1] at hg
    exact ⟨acc, hN, hU, ha, hg⟩

theorem rrel_step {s : ByteArray} {k : Nat} {N U : Int} (h : RRel s k N U) (h1 : k < s.size) (h2 : k < 10) (hc : 128 ≤ (s[k].toNat : Int)) :
    RRel s (k + 1) (IntKind.u64.wrap (N + IntKind.u64.wrap ((↑s[k].toNat - 128) * U))) (IntKind.u64.wrap (U * 128)) := by
  obtain ⟨acc, rfl, rfl, ha, hg⟩ := rrel_open h h1 h2
  have hlt := s[k].toNat_lt
  obtain ⟨f, hf⟩ : ∃ f, 10 - k = f + 1 := ⟨9 - k, by omega⟩
  rw [hf, V.getF, if_pos (by omega)] at hg
  by_cases h9 : k = 9
  · have : f = 0 := by omega
    subst this
    refine Or.inl ⟨by omega, ?_⟩
    rw [← hg]; rfl
  · have h128 : 128 ^ k ≤ 128 ^ 8 := Nat.pow_le_pow_right (by omega) (by omega)
    have hfit : (s[k].toNat - 128) * 128 ^ k ≤ 127 * 128 ^ 8 := Nat.mul_le_mul (by omega) h128
    simp at hfit h128
    refine Or.inr ⟨by omega, acc + (s[k].toNat - 128) * 128 ^ k, ?_, ?_, ?_, ?_⟩
    · have e1 : ((s[k].toNat : Int) - 128) * ((128 ^ k : Nat) : Int) = (((s[k].toNat - 128) * 128 ^ k : Nat) : Int) := by
        rw [Int.natCast_mul]; congr 1; omega
      rw [e1, B.wrap_u64_nat _ (by omega), ← Int.natCast_add, B.wrap_u64_nat _ (by omega)]
    · rw [show ((128 ^ k : Nat) : Int) * 128 = ((128 ^ k * 128 : Nat) : Int) from by omega, B.wrap_u64_nat _ (by omega), Nat.pow_succ]
    · have : (s[k].toNat - 128) * 128 ^ k ≤ 127 * 128 ^ k := Nat.mul_le_mul_right _ (by omega)
      rw [Nat.pow_succ]; omega
    · rw [show 10 - (k + 1) = f from by omega]; exact hg

theorem rrel_range {s : ByteArray} {N U : Int} (h : RRel s 9 N U) (h1 : 9 < s.size) (hc : (s[9].toNat : Int) < 128) (hl : 1 < (s[9].toNat : Int)) :
    V.get (L s) = (0, 0, 7) := by
  obtain ⟨acc, rfl, rfl, ha, hg⟩ := rrel_open h h1 (by omega)
  rw [show 10 - 9 = 0 + 1 from rfl, V.getF, if_neg (by omega), if_pos (by omega)] at hg
  exact hg.symm

theorem rrel_syntax {s : ByteArray} {k : Nat} {N U : Int} (h : RRel s k N U) (h1 : k < s.size) (h2 : k < 10) (hc : s[k].toNat = 0) (hk : 0 < k) :
    V.get (L s) = (0, 0, 2) := by
  obtain ⟨acc, rfl, rfl, ha, hg⟩ := rrel_open h h1 h2
  obtain ⟨f, hf⟩ : ∃ f, 10 - k = f + 1 := ⟨9 - k, by omega⟩
  rw [hf, V.getF, if_neg (by omega), if_neg (by omega), if_pos (by omega)] at hg
  exact hg.symm

theorem rrel_ok {s : ByteArray} {k : Nat} {N U : Int} (h : RRel s k N U) (h1 : k < s.size) (h2 : k < 10) (hc : (s[k].toNat : Int) < 128) (hl : ¬ (k = 9 ∧ 1 < s[k].toNat)) (h0 : ¬ (s[k].toNat = 0 ∧ 0 < k)) :
    ((V.get (L s)).1 : Int) = IntKind.u64.wrap (N + IntKind.u64.wrap (↑s[k].toNat * U)) ∧ (V.get (L s)).2.1 = k + 1 ∧ (V.get (L s)).2.2 = 0 := by
  obtain ⟨acc, rfl, rfl, ha, hg⟩ := rrel_open h h1 h2
  obtain ⟨f, hf⟩ : ∃ f, 10 - k = f + 1 := ⟨9 - k, by omega⟩
  rw [hf, V.getF, if_neg (by omega), if_neg (by omega), if_neg (by omega)] at hg
  have hfit : acc + s[k].toNat * 128 ^ k < 18446744073709551616 := by
    by_cases h9 : k = 9
    · have e9 : 128 ^ k = 128 ^ 9 := by rw [h9]
      have : s[k].toNat * 128 ^ k ≤ 1 * 128 ^ 9 := by rw [e9]; exact Nat.mul_le_mul_right _ (by omega)
      rw [e9] at ha
      simp at this ha; omega
    · have h128 : 128 ^ k ≤ 128 ^ 8 := Nat.pow_le_pow_right (by omega) (by omega)
      have : s[k].toNat * 128 ^ k ≤ 127 * 128 ^ 8 := Nat.mul_le_mul (by omega) h128
      simp at this h128; omega
  rw [← hg, ← Int.natCast_mul, B.wrap_u64_nat _ (by omega), ← Int.natCast_add, B.wrap_u64_nat _ hfit]
  exact ⟨rfl, rfl, rfl⟩

theorem rrel_end {s : ByteArray} {k : Nat} {N U : Int} (h : RRel s k N U) (hk : k ≤ s.size) (hk10 : k ≤ 10) (hn : ¬ (k < s.size ∧ k < 10)) :
    V.get (L s) = (0, 0, if s.size < 10 then 9 else 7) := by
  rcases h with ⟨h, hg⟩ | ⟨h9, acc, hN, hU, ha, hg⟩
  · rw [if_neg (by omega)]; exact hg
  · have hz : s.size = k := by omega
    rw [if_pos (by omega), ← hg, List.drop_of_length_le (by rw [L_length]; omega)]
    obtain ⟨f, hf⟩ : ∃ f, 10 - k = f + 1 := ⟨9 - k, by omega⟩
    rw [hf]; rfl


end Go.Proofs.YtnhbgjgfneoajaaDoor
