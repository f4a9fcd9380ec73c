/-
  wire.Get reads the varint at the beginning of any text, or tells its error.
-/
import Derived.Test.YtnhbgjgfneoajaaDoorShelf
import Derived.Test.YtnhbgjgfneoajaaDoorMath
import Derived.Test.YtnhbgjgfneoajaaDoorBits
import Derived.WalkKit
import Derived.Lib.Hide
import Derived.WalkSpells
import Derived.WalkLawsBesides
set_option linter.unusedVariables false
namespace Go.Proofs.YtnhbgjgfneoajaaDoor
open Go.RowKit

/-- the bytes of a string -/
abbrev L (s : ByteArray) : List UInt8 := s.data.toList

theorem L_length (s : ByteArray) : (L s).length = s.size := by rw [Array.length_toList]; rfl
theorem L_drop (s : ByteArray) (k : Nat) (h : k < s.size) : (L s).drop k = s[k] :: (L s).drop (k + 1) := by
  have h' : k < (L s).length := by rw [L_length]; exact h
  rw [List.drop_eq_getElem_cons h']; rfl

/-- k bytes are read, their number is N (unless ten are read) -/
def GRel (s : ByteArray) (k : Nat) (N : Int) : Prop :=
  (k = 10 ∧ V.get (L s) = (0, 0, 7)) ∨ (k ≤ 9 ∧ ∃ acc : Nat, N = acc ∧ acc < 128 ^ k ∧ V.getF (10 - k) k acc ((L s).drop k) = V.get (L s))

theorem grel_start (s : ByteArray) : GRel s 0 0 := Or.inr ⟨by omega, 0, rfl, by simp, rfl⟩

theorem grel_open {s : ByteArray} {k : Nat} {N : Int} (h : GRel s k N) (h1 : k < s.size) (h2 : k < 10) :
    ∃ acc : Nat, N = acc ∧ acc < 128 ^ k ∧ V.getF (10 - k) k acc (s[k] :: (L s).drop (k + 1)) = V.get (L s) := by
  rcases h with ⟨h, _⟩ | ⟨_, acc, hN, ha, hg⟩
  · omega
  · rw [L_drop s k h1] at hg
    exact ⟨acc, hN, ha, hg⟩

theorem grel_step {s : ByteArray} {k : Nat} {N : Int} (h : GRel s k N) (h1 : k < s.size) (h2 : k < 10) (hc : 128 ≤ (s[k].toNat : Int)) :
    GRel s (k + 1) (bits BinOp.or IntKind.u64 N (IntKind.u64.wrap (IntKind.u64.wrap (bits BinOp.and IntKind.u8 (↑s[k].toNat) 127) * 2 ^ (7 * k)))) := by
  obtain ⟨acc, rfl, ha, hg⟩ := grel_open h h1 h2
  have hlt := s[k].toNat_lt
  obtain ⟨f, hf⟩ : ∃ f, 10 - k = f + 1 := ⟨9 - k, by omega⟩
  rw [hf, V.getF, if_pos (by omega)] at hg
  by_cases h9 : k = 9
  · have : f = 0 := by omega
    subst this
    refine Or.inl ⟨by omega, ?_⟩
    rw [← hg]; rfl
  · refine Or.inr ⟨by omega, acc + (s[k].toNat - 128) * 128 ^ k, ?_, ?_, ?_⟩
    · have h128 : 128 ^ k ≤ 128 ^ 8 := Nat.pow_le_pow_right (by omega) (by omega)
      have hfit : (s[k].toNat - 128) * 128 ^ k ≤ 127 * 128 ^ 8 := Nat.mul_le_mul (by omega) h128
      rw [B.and127 _ hlt, show s[k].toNat % 128 = s[k].toNat - 128 from by omega, B.or_group acc (s[k].toNat - 128) k ha (by omega) (by omega) (by simp at hfit; omega)]
    · have : (s[k].toNat - 128) * 128 ^ k ≤ 127 * 128 ^ k := Nat.mul_le_mul_right _ (by omega)
      rw [Nat.pow_succ]; omega
    · rw [show 10 - (k + 1) = f from by omega]; exact hg

theorem grel_range {s : ByteArray} {k : Nat} {N : Int} (h : GRel s k N) (h1 : k < s.size) (h2 : k < 10) (hc : (s[k].toNat : Int) < 128) (hl : (64 : Int) < ↑(Lib.bitLen s[k].toNat) + 7 * ↑k) :
    V.get (L s) = (0, 0, 7) := by
  obtain ⟨acc, rfl, ha, hg⟩ := grel_open h h1 h2
  have b7 := B.bitLen_group s[k].toNat (by omega)
  have b1 := B.bitLen_one s[k].toNat (by omega)
  obtain ⟨f, hf⟩ : ∃ f, 10 - k = f + 1 := ⟨9 - k, by omega⟩
  rw [hf, V.getF, if_neg (by omega), if_pos (by omega)] at hg
  exact hg.symm

theorem grel_syntax {s : ByteArray} {k : Nat} {N : Int} (h : GRel s k N) (h1 : k < s.size) (h2 : k < 10) (hc : (s[k].toNat : Int) = 0) (hk : 0 < k) :
    V.get (L s) = (0, 0, 2) := by
  obtain ⟨acc, rfl, ha, hg⟩ := grel_open h h1 h2
  obtain ⟨f, hf⟩ : ∃ f, 10 - k = f + 1 := ⟨9 - k, by omega⟩
  rw [hf, V.getF, if_neg (by omega), if_neg (by omega), if_pos (by omega)] at hg
  exact hg.symm

theorem grel_ok {s : ByteArray} {k : Nat} {N : Int} (h : GRel s k N) (h1 : k < s.size) (h2 : k < 10) (hc : (s[k].toNat : Int) < 128) (hl : ↑(Lib.bitLen s[k].toNat) + 7 * (k : Int) ≤ 64) (h0 : ¬ ((s[k].toNat : Int) = 0 ∧ 0 < k)) :
    ((V.get (L s)).1 : Int) = bits BinOp.or IntKind.u64 N (IntKind.u64.wrap (IntKind.u64.wrap (↑s[k].toNat) * 2 ^ (7 * k))) ∧ (V.get (L s)).2.1 = k + 1 ∧ (V.get (L s)).2.2 = 0 := by
  obtain ⟨acc, rfl, ha, hg⟩ := grel_open h h1 h2
  have b7 := B.bitLen_group s[k].toNat (by omega)
  have b1 := B.bitLen_one s[k].toNat (by omega)
  obtain ⟨f, hf⟩ : ∃ f, 10 - k = f + 1 := ⟨9 - k, by omega⟩
  rw [hf, V.getF, if_neg (by omega), if_neg (by omega), if_neg (by omega)] at hg
  have hfit : s[k].toNat * 128 ^ k < 18446744073709551616 := by
    by_cases h9 : k = 9
    · have e9 : 128 ^ k = 128 ^ 9 := by rw [h9]
      have : s[k].toNat * 128 ^ k ≤ 1 * 128 ^ 9 := by rw [e9]; exact Nat.mul_le_mul_right _ (by omega)
      simp at this; omega
    · have h128 : 128 ^ k ≤ 128 ^ 8 := Nat.pow_le_pow_right (by omega) (by omega)
      have : s[k].toNat * 128 ^ k ≤ 127 * 128 ^ 8 := Nat.mul_le_mul (by omega) h128
      simp at this; omega
  rw [← hg, B.or_group acc s[k].toNat k ha (by omega) (by omega) hfit]
  exact ⟨rfl, rfl, rfl⟩

theorem grel_zero {s : ByteArray} {k : Nat} {N : Int} (h : GRel s k N) (h1 : k < s.size) (h2 : k < 10) (hc : s[k].toNat = 0) (hk : ¬ 0 < k) :
    ((V.get (L s)).1 : Int) = bits BinOp.or IntKind.u64 N 0 ∧ (V.get (L s)).2.1 = k + 1 ∧ (V.get (L s)).2.2 = 0 := by
  have h0 := grel_ok h h1 h2 (by omega) (by rw [hc]; have : Lib.bitLen 0 = 0 := by decide
                                            omega) (by omega)
  rw [hc] at h0
  have e : IntKind.u64.wrap (IntKind.u64.wrap ((0 : Nat) : Int) * 2 ^ (7 * k)) = 0 := by
    rw [B.wrap_u64_nat 0 (by omega)]; simp [IntKind.wrap_u64]
  rw [e] at h0
  exact h0

theorem grel_end {s : ByteArray} {k : Nat} {N : Int} (h : GRel s k N) (hk : k ≤ s.size) (hk10 : k ≤ 10) (hn : ¬ (k < s.size ∧ k < 10)) :
    V.get (L s) = (0, 0, if s.size < 10 then 9 else 7) := by
  rcases h with ⟨h, hg⟩ | ⟨h9, acc, hN, ha, hg⟩
  · rw [if_neg (by omega)]; exact hg
  · have hz : s.size = k := by omega
    rw [if_pos (by omega), ← hg, List.drop_of_length_le (by rw [L_length]; omega)]
    obtain ⟨f, hf⟩ : ∃ f, 10 - k = f + 1 := ⟨9 - k, by omega⟩
    rw [hf]; rfl

theorem ret3 {a a' b b' c c' : Int} (h1 : a = a') (h2 : b = b') (h3 : c = c') :
    Ending.returned (.tuple #[.int .u64 a, .int .i64 b, .int .i64 c]) = .returned (.tuple #[.int .u64 a', .int .i64 b', .int .i64 c']) := by rw [h1, h2, h3]


end Go.Proofs.YtnhbgjgfneoajaaDoor
