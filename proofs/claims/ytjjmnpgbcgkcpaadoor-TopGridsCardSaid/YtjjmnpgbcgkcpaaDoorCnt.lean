/-
  The number of members of a set; the order of sets.
-/
import Derived.Test.YtjjmnpgbcgkcpaaDoorFam
set_option linter.unusedVariables false
namespace Go.Proofs.YtjjmnpgbcgkcpaaDoor
open Go.RowKit

theorem mand255 (a : V) : bits .and .u16 (M a) 255 = M (a &&& 255#16) := mand a 255#16
theorem and255 (a : V) : (a &&& 255#16).toNat = a.toNat % 256 := by
  rw [BitVec.toNat_and]
  exact Nat.and_two_pow_sub_one_eq_mod a.toNat 8
theorem M_and255 (a : V) : M (a &&& 255#16) < 256 := by unfold M; rw [and255]; omega
theorem M_div (a : V) : M a / 256 < 256 := by have := M_lt a; omega
theorem M_div0 (a : V) : 0 ≤ M a / 256 := by have := M_ge a; omega

namespace T
/-- the number of ones among the first f bits -/
def pc : Nat → Nat → Nat
  | 0, _ => 0
  | f + 1, n => n % 2 + pc f (n / 2)
theorem pc_le : ∀ f n, pc f n ≤ f
  | 0, _ => Nat.le_refl 0
  | f + 1, n => by have := pc_le f (n / 2); unfold pc; omega
def count (a : V) : Int := ((pc 8 (a.toNat / 256) + pc 8 (a.toNat % 256) : Nat) : Int)
theorem count_ge (a : V) : 0 ≤ count a := by unfold count; omega
theorem count_le (a : V) : count a ≤ 16 := by
  have h1 := pc_le 8 (a.toNat / 256)
  have h2 := pc_le 8 (a.toNat % 256)
  unfold count; omega
/-- the numbers of ones of the bytes -/
def ones : ByteArray := ⟨#[0, 1, 1, 2, 1, 2, 2, 3, 1, 2, 2, 3, 2, 3, 3, 4, 1, 2, 2, 3, 2, 3, 3, 4, 2, 3, 3, 4, 3, 4, 4, 5, 1, 2, 2, 3, 2, 3, 3, 4, 2, 3, 3, 4, 3, 4, 4, 5, 2, 3, 3, 4, 3, 4, 4, 5, 3, 4, 4, 5, 4, 5, 5, 6, 1, 2, 2, 3, 2, 3, 3, 4, 2, 3, 3, 4, 3, 4, 4, 5, 2, 3, 3, 4, 3, 4, 4, 5, 3, 4, 4, 5, 4, 5, 5, 6, 2, 3, 3, 4, 3, 4, 4, 5, 3, 4, 4, 5, 4, 5, 5, 6, 3, 4, 4, 5, 4, 5, 5, 6, 4, 5, 5, 6, 5, 6, 6, 7, 1, 2, 2, 3, 2, 3, 3, 4, 2, 3, 3, 4, 3, 4, 4, 5, 2, 3, 3, 4, 3, 4, 4, 5, 3, 4, 4, 5, 4, 5, 5, 6, 2, 3, 3, 4, 3, 4, 4, 5, 3, 4, 4, 5, 4, 5, 5, 6, 3, 4, 4, 5, 4, 5, 5, 6, 4, 5, 5, 6, 5, 6, 6, 7, 2, 3, 3, 4, 3, 4, 4, 5, 3, 4, 4, 5, 4, 5, 5, 6, 3, 4, 4, 5, 4, 5, 5, 6, 4, 5, 5, 6, 5, 6, 6, 7, 3, 4, 4, 5, 4, 5, 5, 6, 4, 5, 5, 6, 5, 6, 6, 7, 4, 5, 5, 6, 5, 6, 6, 7, 5, 6, 6, 7, 6, 7, 7, 8]⟩
set_option maxRecDepth 100000 in
theorem ones_pc : ∀ i : Fin 256, (ones.data[i.1]?.map (·.toNat)) = some (pc 8 i.1) := by decide +kernel
set_option maxRecDepth 100000 in
theorem ones_at (i : Nat) (h : i < ones.size) : ones[i].toNat = pc 8 i := by
  have h2 : i < 256 := h
  have h3 := ones_pc ⟨i, h2⟩
  have h4 : ones.data[i]? = some ones[i] := Array.getElem?_eq_getElem h
  rw [h4] at h3
  exact Option.some.inj h3
end T

set_option maxRecDepth 100000 in
set_option maxHeartbeats 400000 in
theorem ones_any (a : V) (w : World) : Calls Tryd.prog 44 #[.int .u16 (M a)] w fun e w' => e = .returned (.int .i64 (T.count a)) ∧ Below w.heap.size w w' := by
  have h1 := mand255 a
  have h2 := M_and255 a
  have h3 := M_ge (a &&& 255#16)
  have h4 := M_div a
  have h5 := M_div0 a
  have hx : (M a / 256).toNat < T.ones.size := by show _ < 256; omega
  have hy : (M (a &&& 255#16)).toNat < T.ones.size := by show _ < 256; omega
  have hC : ∀ _ : Unit, ((T.ones[(M a / 256).toNat].toNat : Int) + (T.ones[(M (a &&& 255#16)).toNat].toNat : Int)) % 256 = T.count a := fun _ => by
    rw [T.ones_at, T.ones_at]
    have e1 : (M a / 256).toNat = a.toNat / 256 := by unfold M; omega
    have e2 : (M (a &&& 255#16)).toNat = a.toNat % 256 := by unfold M; rw [and255]; omega
    rw [e1, e2]
    have p1 := T.pc_le 8 (a.toNat / 256)
    have p2 := T.pc_le 8 (a.toNat % 256)
    unfold T.count
    omega
  go_enter Tryd.func44, Tryd.ntmps44
  go_upto_region 1 with fail
  go_quiet (fail)
  go_wp2_with fail
  go_ret
  exact ⟨congrArg (fun x => Ending.returned (.int .i64 x)) (hC ()), ⟨rfl, rfl, rfl, Nat.le_refl _, fun _ _ => rfl⟩⟩

set_option maxHeartbeats 400000 in
theorem count_any (a : V) (w : World) : Calls Tryd.prog 31 #[.int .u16 (M a)] w fun e w' => e = .returned (.int .i64 (T.count a)) ∧ Below w.heap.size w w' := by
  go_enter Tryd.func31, Tryd.ntmps31
  go_wp2_with (go_at_call 44; refine (ones_any a _).mono ?_; rintro e w2 ⟨rfl, hB⟩)
  go_ret
  exact ⟨rfl, hB⟩

namespace T
def cmp (a b : Int) : Int := if a < b then -1 else if b < a then 1 else 0
def compare (a b : V) : Int := if cmp (count a) (count b) = 0 then cmp (M a) (M b) else cmp (count a) (count b)
end T

set_option maxHeartbeats 400000 in
theorem nan_int (a : Int) (w : World) : Calls Tryd.prog 51 #[.int .i64 a] w fun e w' => e = .returned (.bool false) ∧ w' = w := by
  go_enter Tryd.func51, Tryd.ntmps51
  go_wp2_with fail
  go_ret
  exact ⟨rfl, rfl⟩
set_option maxHeartbeats 400000 in
theorem nan_set (a : V) (w : World) : Calls Tryd.prog 52 #[.int .u16 (M a)] w fun e w' => e = .returned (.bool false) ∧ w' = w := by
  go_enter Tryd.func52, Tryd.ntmps52
  go_wp2_with fail
  go_ret
  exact ⟨rfl, rfl⟩

set_option maxHeartbeats 1000000 in
theorem cmp_int (a b : Int) (w : World) : Calls Tryd.prog 47 #[.int .i64 a, .int .i64 b] w fun e w' => e = .returned (.int .i64 (T.cmp a b)) ∧ w' = w := by
  go_enter Tryd.func47, Tryd.ntmps47
  go_wp2_with (go_at_call 51; refine (nan_int _ _).mono ?_; rintro e w2 ⟨rfl, rfl⟩)
  all_goals
    go_ret
    refine ⟨?_, rfl⟩
    unfold T.cmp
    first
      | (rw [if_pos (by assumption)]; rfl)
      | (rw [if_neg (by omega), if_pos (by omega)]; rfl)
      | (rw [if_neg (by omega), if_neg (by omega)]; rfl)
set_option maxHeartbeats 1000000 in
theorem cmp_set (a b : V) (w : World) : Calls Tryd.prog 48 #[.int .u16 (M a), .int .u16 (M b)] w fun e w' => e = .returned (.int .i64 (T.cmp (M a) (M b))) ∧ w' = w := by
  go_enter Tryd.func48, Tryd.ntmps48
  go_wp2_with (go_at_call 52; refine (nan_set _ _).mono ?_; rintro e w2 ⟨rfl, rfl⟩)
  all_goals
    go_ret
    refine ⟨?_, rfl⟩
    unfold T.cmp
    first
      | (rw [if_pos (by assumption)]; rfl)
      | (rw [if_neg (by omega), if_pos (by omega)]; rfl)
      | (rw [if_neg (by omega), if_neg (by omega)]; rfl)

set_option maxRecDepth 100000 in
set_option maxHeartbeats 1000000 in
theorem or_any (ao : Option Addr) (cap : Nat) (xs : List Int) (w : World) (hc : Cells w ao xs.length (fun i => .int .i64 (xs.getD i 0))) (hn : xs.length ≤ 100000) :
    Calls Tryd.prog 46 #[.slice ao xs.length cap] w fun e w' => e = .returned (.int .i64 ((xs.find? (fun x => x != 0)).getD 0)) ∧ w' = w := by
  go_enter Tryd.func46, Tryd.ntmps46
  go_wp2_with fail
  go_loop [8] (fun x => ∃ i : Nat, x = .int .i64 (i : Int) ∧ i ≤ xs.length ∧ xs.find? (fun x => x != 0) = (xs.drop i).find? (fun x => x != 0)) (fun x => xs.length - (intOf x).toNat)
  case atStart => exact ⟨0, rfl, by omega, rfl⟩
  case round =>
    obtain ⟨i, rfl, hi, hf⟩ := hrel
    by_cases hlt : i < xs.length
    · obtain ⟨b, off, rfl, hc0⟩ := hc i hlt
      rw [List.drop_eq_getElem_cons hlt, List.find?_cons] at hf
      have hcell : w.cell? ⟨b, off + i, none⟩ = some (.int .i64 xs[i]) := by
        rw [hc0]
        show some (Value.int .i64 (xs.getD i 0)) = _
        rw [List.getD_eq_getElem?_getD, List.getElem?_eq_getElem hlt]; rfl
      clear hc hc0
      generalize xs[i] = x at hcell hf
      by_cases hx : x = 0
      · subst hx
        have hF : ∀ _ : Unit, _ := fun _ => hf
        clear hf
        go_wp2_with fail
        go_round
        case rel => exact ⟨i + 1, by go_num, by omega, hF ()⟩
        case measure => simp [intOf]; omega
      · have hne : (x != 0) = true := by simpa using hx
        rw [hne] at hf
        have hF : ∀ _ : Unit, _ := fun _ => hf
        have hx2 : (x == 0) = false := by simpa using hx
        clear hf
        go_wp2_with fail
        go_ret
        exact ⟨by rw [hF ()]; rfl, rfl⟩
    · obtain rfl : i = xs.length := by omega
      rw [List.drop_length] at hf
      have hF : ∀ _ : Unit, _ := fun _ => hf
      clear hf
      go_wp2_with fail
      go_ret
      exact ⟨by rw [hF ()]; rfl, rfl⟩

theorem cells_two (w : World) (a b : Int) (t : TypeId) : Cells (w.alloc (.cells #[.int .i64 a, .int .i64 b] t)) (some ⟨w.heap.size, 0, none⟩) [a, b].length (fun i => .int .i64 ([a, b].getD i 0)) := by
  have h : (w.alloc (.cells #[.int .i64 a, .int .i64 b] t)).heap[w.heap.size]? = some (.cells #[.int .i64 a, .int .i64 b] t (0, 0)) := by
    show (w.heap.push _)[w.heap.size]? = _
    simp
  intro i hi
  refine ⟨w.heap.size, 0, rfl, ?_⟩
  have hi : i < 2 := hi
  unfold World.cell?
  rw [h]
  match i, hi with
  | 0, _ => rfl
  | 1, _ => rfl

set_option maxHeartbeats 1000000 in
theorem compare_any (a b : V) (w : World) : Calls Tryd.prog 38 #[.int .u16 (M a), .int .u16 (M b)] w fun e w' => e = .returned (.int .i64 (T.compare a b)) ∧ Below w.heap.size w w' := by
  go_enter Tryd.func38, Tryd.ntmps38
  go_wp2_with (go_at_call 31; refine (count_any a _).mono ?_)
  rintro e w2 ⟨rfl, hB⟩
  go_wp2_with (go_at_call 31; refine (count_any b _).mono ?_)
  rintro e w3 ⟨rfl, hB3⟩
  have hB4 := hB.trans (hB3.mono hB.size)
  go_wp2_with (first | (go_at_call 47; refine (cmp_int _ _ _).mono ?_; rintro e w4 ⟨rfl, rfl⟩) | (go_at_call 48; refine (cmp_set _ _ _).mono ?_; rintro e w4 ⟨rfl, rfl⟩) | (go_at_call 46; refine (or_any _ 2 [T.cmp (T.count a) (T.count b), T.cmp (M a) (M b)] _ (cells_two _ _ _ _) (by simp)).mono ?_; rintro e w4 ⟨rfl, rfl⟩))
  go_ret
  refine ⟨?_, hB4.trans (((Below.refl _ _).alloc (Nat.le_refl _) _).mono hB4.size)⟩
  refine congrArg (fun x => Ending.returned (.int .i64 x)) ?_
  unfold T.compare
  by_cases h : T.cmp (T.count a) (T.count b) = 0
  · rw [if_pos h]
    by_cases h2 : T.cmp (M a) (M b) = 0
    · rw [h, h2]; rfl
    · simp [h, h2]
  · rw [if_neg h]
    simp [h]

end Go.Proofs.YtjjmnpgbcgkcpaaDoor
