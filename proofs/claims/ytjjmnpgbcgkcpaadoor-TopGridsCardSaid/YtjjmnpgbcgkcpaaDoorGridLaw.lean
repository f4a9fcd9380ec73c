/-
  The families of the grids up to three rows and three columns, as the plain functions give them.
-/
import Derived.Test.YtjjmnpgbcgkcpaaDoorLeast
set_option linter.unusedVariables false
namespace Go.Proofs.YtjjmnpgbcgkcpaaDoor
open Go.RowKit

namespace T
def fTab : Nat → Nat → List V
  | 1, 1 => [1#16]
  | 1, 2 => [3#16]
  | 1, 3 => [7#16]
  | 2, 1 => [1#16, 2#16]
  | 2, 2 => [3#16, 12#16]
  | 2, 3 => [7#16, 56#16]
  | 3, 1 => [1#16, 2#16, 4#16]
  | 3, 2 => [3#16, 12#16, 48#16]
  | 3, 3 => [7#16, 56#16, 448#16]
  | _, _ => []
def lTab : Nat → Nat → List V
  | 1, 1 => [1#16]
  | 1, 2 => [1#16, 2#16]
  | 1, 3 => [1#16, 2#16, 4#16]
  | 2, 1 => [3#16]
  | 2, 2 => [5#16, 6#16, 9#16, 10#16]
  | 2, 3 => [9#16, 10#16, 12#16, 17#16, 18#16, 20#16, 33#16, 34#16, 36#16]
  | 3, 1 => [7#16]
  | 3, 2 => [21#16, 22#16, 25#16, 26#16, 37#16, 38#16, 41#16, 42#16]
  | 3, 3 => [73#16, 74#16, 76#16, 81#16, 82#16, 84#16, 97#16, 98#16, 100#16, 137#16, 138#16, 140#16, 145#16, 146#16, 148#16, 161#16, 162#16, 164#16, 265#16, 266#16, 268#16, 273#16, 274#16, 276#16, 289#16, 290#16, 292#16]
  | _, _ => []

def gR (a b : Nat) : Ex := one (reads b a)
def gW (a b : Nat) : Ex := all (writes b a)
set_option maxRecDepth 100000 in
theorem sup_ok : ∀ a b : Fin 3, (sup (gR (a.1 + 1) (b.1 + 1)).1).toNat < 512 ∧ (sup (gW (a.1 + 1) (b.1 + 1)).1).toNat < 512 := by decide +kernel
set_option maxRecDepth 100000 in
theorem famR : ∀ a b : Fin 3, famF (holds (gR (a.1 + 1) (b.1 + 1))) (subsets (sup (gR (a.1 + 1) (b.1 + 1)).1)) = fTab (a.1 + 1) (b.1 + 1) := by decide +kernel
set_option maxRecDepth 100000 in
theorem famW : ∀ a b : Fin 3, famF (holds (gW (a.1 + 1) (b.1 + 1))) (subsets (sup (gW (a.1 + 1) (b.1 + 1)).1)) = lTab (a.1 + 1) (b.1 + 1) := by decide +kernel
def goodN (d : Nd) (n : Nat) : Bool :=
  (decide (d.kind = 1) && decide (d.need = 0) && d.kids.isEmpty && decide (0 ≤ d.server) && decide (d.server < 12)) ||
    (decide (d.kind = 2) && decide (d.server = 0) && decide (0 ≤ d.need) && decide (d.need ≤ 100000) && decide (d.kids.length ≤ 1000) && d.kids.all fun k => decide (0 ≤ k) && decide (k < (n : Int)))
theorem goodN_of {d : Nd} {n : Nat} (h : goodN d n = true) : GoodN d n := by
  unfold goodN at h
  simp only [Bool.or_eq_true, Bool.and_eq_true, decide_eq_true_eq, List.all_eq_true, List.isEmpty_iff] at h
  rcases h with h | h
  · exact .inl ⟨h.1.1.1.1, h.1.1.1.2, h.1.1.2, h.1.2, h.2⟩
  · exact .inr ⟨h.1.1.1.1.1, h.1.1.1.1.2, h.1.1.1.2, h.1.1.2, h.1.2, h.2⟩
def goodL : Nat → List Nd → Bool
  | _, [] => true
  | n, d :: l => goodN d n && goodL (n + 1) l
theorem goodL_at : ∀ (l : List Nd) (n i : Nat) (d : Nd), goodL n l = true → l[i]? = some d → goodN d (n + i) = true
  | [], _, _, _, _, h => by simp at h
  | x :: l, n, 0, d, h, hd => by
    unfold goodL at h
    rw [Bool.and_eq_true] at h
    have e : x = d := by simpa using hd
    rw [← e]
    exact h.1
  | x :: l, n, i + 1, d, h, hd => by
    unfold goodL at h
    rw [Bool.and_eq_true] at h
    have h1 := goodL_at l (n + 1) i d h.2 (by simpa using hd)
    rw [show n + 1 + i = n + (i + 1) by omega] at h1
    exact h1
def goodX (x : Ex) : Bool := decide (x.1.length ≤ 60) && (decide (0 ≤ x.2) && decide (x.2 < (x.1.length : Int))) && goodL 0 x.1
theorem goodX_of {x : Ex} (h : goodX x = true) : GoodX x := by
  unfold goodX at h
  simp only [Bool.and_eq_true, decide_eq_true_eq] at h
  refine ⟨h.1.1, h.1.2, fun i d hd => goodN_of ?_⟩
  have h1 := goodL_at x.1 0 i d h.2 hd
  rwa [Nat.zero_add] at h1
set_option maxRecDepth 100000 in
theorem good_ok : ∀ a b : Fin 3, goodX (gR (a.1 + 1) (b.1 + 1)) = true ∧ goodX (gW (a.1 + 1) (b.1 + 1)) = true := by decide +kernel
/-- the least set -/
def least (a b : Nat) : V := (lTab a b).getD 0 0#16
set_option maxRecDepth 100000 in
theorem tab_ok : ∀ a b : Fin 3, (fTab (a.1 + 1) (b.1 + 1)).length = a.1 + 1 ∧ 0 < (lTab (a.1 + 1) (b.1 + 1)).length ∧ (lTab (a.1 + 1) (b.1 + 1)).length ≤ 27 ∧ goodF (fTab (a.1 + 1) (b.1 + 1)) = true ∧ (support (fTab (a.1 + 1) (b.1 + 1))).toNat < 512 ∧
    cross (fTab (a.1 + 1) (b.1 + 1)) (lTab (a.1 + 1) (b.1 + 1)) = true ∧ refCount (least (a.1 + 1) (b.1 + 1)) = ((a.1 + 1 : Nat) : Int) ∧ refCount ((fTab (a.1 + 1) (b.1 + 1)).getD 0 0#16) = ((b.1 + 1 : Nat) : Int) := by decide +kernel
set_option maxRecDepth 100000 in
theorem dual_ok : ∀ a b : Fin 3, famF (hits (fTab (a.1 + 1) (b.1 + 1))) (subsets (support (fTab (a.1 + 1) (b.1 + 1)))) = lTab (a.1 + 1) (b.1 + 1) := by decide +kernel
set_option maxRecDepth 100000 in
theorem least_ok : ∀ a b : Fin 3, (subsets (support (fTab (a.1 + 1) (b.1 + 1)))).find? (hits (fTab (a.1 + 1) (b.1 + 1))) = some (least (a.1 + 1) (b.1 + 1)) := by decide +kernel
end T
end Go.Proofs.YtjjmnpgbcgkcpaaDoor
