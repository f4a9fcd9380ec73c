/-
  The members of a set; the table of the library that the number of trailing zeros is read from.
-/
import Derived.Test.YtjjmnpgbcgkcpaaDoorCnt
set_option linter.unusedVariables false
namespace Go.Proofs.YtjjmnpgbcgkcpaaDoor
open Go.RowKit

namespace T
def tab : List Int := [0, 1, 28, 2, 29, 14, 24, 3, 30, 22, 20, 15, 25, 17, 4, 8, 31, 27, 13, 23, 21, 19, 16, 7, 26, 12, 18, 6, 11, 5, 10, 9]
end T
/-- the table of the library, as it stands in memory -/
def Tab (w : World) : Prop := ∀ r, r < 32 → w.cell? ⟨0, r, none⟩ = some (.int .u8 (T.tab.getD r 0))
theorem Tab.keep {w w' : World} (h : Tab w) (hB : Below w.heap.size w w') : Tab w' := fun r hr => by
  have h1 := h r hr
  exact (hB.cell (cell_lt h1)).trans h1

theorem mneg (a : V) : IntKind.u16.wrap (-(M a)) = M (-a) := by
  unfold M
  rw [IntKind.wrap_u16, BitVec.toNat_neg]
  have := a.isLt
  omega

theorem mwide (a : V) : IntKind.u32.wrap (M a) = M a := by
  have h1 := M_lt a
  have h2 := M_ge a
  rw [IntKind.wrap_u32]; omega

namespace T
def mul (n : Nat) : Nat := n * 125613361 % 4294967296
def tzi (a : V) : Nat := mul (a &&& -a).toNat / 134217728
theorem mul_lt (n : Nat) : mul n < 4294967296 := Nat.mod_lt _ (by decide)
theorem tzi_lt (a : V) : tzi a < 32 := by
  have h := mul_lt (a &&& -a).toNat
  unfold tzi
  exact Nat.div_lt_of_lt_mul h
def tz (a : V) : Int := tab.getD (tzi a) 0
theorem tab_small : ∀ r : Fin 32, 0 ≤ tab.getD r.1 0 ∧ tab.getD r.1 0 < 32 := by decide
theorem tz_ge (a : V) : 0 ≤ tz a := (tab_small ⟨tzi a, tzi_lt a⟩).1
theorem tz_lt (a : V) : tz a < 32 := (tab_small ⟨tzi a, tzi_lt a⟩).2
end T
theorem mul_cast (a : V) : IntKind.u32.wrap (M a * 125613361) = ((T.mul a.toNat : Nat) : Int) := by
  rw [IntKind.wrap_u32]
  unfold T.mul M
  rw [Int.natCast_emod, Int.natCast_mul]
  rfl
theorem div_cast (n : Nat) : ((n : Nat) : Int) / 134217728 = ((n / 134217728 : Nat) : Int) := by
  rw [Int.natCast_ediv]
  rfl

set_option maxRecDepth 100000 in
set_option maxHeartbeats 200000 in
/-- told of any way m to write a set as a number: a product of an opened number costs the kernel all memory -/
theorem tz_gen (m : V → Int) (a : V) (w : World) (K c : Int) (r : Nat) (h1 : ∀ a b, bits .and .u16 (m a) (m b) = m (a &&& b)) (h2 : ∀ a, IntKind.u16.wrap (-(m a)) = m (-a)) (hz2 : (m a == 0) = false) (h3 : ∀ a, IntKind.u32.wrap (m a) = m a)
    (hK : IntKind.u32.wrap (m (a &&& -a) * 125613361) = K) (hR : K / 134217728 = (r : Int)) (hr : r < 32) (hcell : w.cell? ⟨0, r, none⟩ = some (.int .u8 c)) (hcw : wrap64 c = c) :
    Calls Tryd.prog 50 #[.int .u16 (m a)] w fun e w' => e = .returned (.int .i64 c) ∧ w' = w := by
  go_enter Tryd.func50, Tryd.ntmps50
  go_wp2_with fail
  go_ret
  exact ⟨congrArg (fun x => Ending.returned (.int .i64 x)) hcw, rfl⟩

theorem tz_any (a : V) (w : World) (h0 : a ≠ 0#16) (hT : Tab w) : Calls Tryd.prog 50 #[.int .u16 (M a)] w fun e w' => e = .returned (.int .i64 (T.tz a)) ∧ w' = w := by
  have c1 := T.tz_ge a
  have c2 := T.tz_lt a
  refine tz_gen M a w _ (T.tz a) (T.tzi a) mand mneg (by rw [M_zero]; simpa using h0) mwide (mul_cast (a &&& -a)) (div_cast _) (T.tzi_lt a) (hT _ (T.tzi_lt a)) (by unfold wrap64; omega)

end Go.Proofs.YtjjmnpgbcgkcpaaDoor
