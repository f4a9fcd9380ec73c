/-
  The reference's comparisons of lists, and the program's GetList and GetInts.
-/
import Derived.Test.YtapembonmcolhaaList
import Derived.Deep.QuietTactic
import Derived.BigQuiet
import Derived.WalkSmall
set_option linter.unusedVariables false
namespace Go.Proofs.Ytapembonmcolhaa
open Go.RowKit

set_option maxRecDepth 100000 in
set_option maxHeartbeats 1000000 in
theorem getList_any (s : ByteArray) (w : World) (hs : s.size ≤ 1000000000) :
    Calls Try.prog 23 #[.string s] w (RetS w.heap.size (V.getStrs (L s)) w) := by
  go_enter Try.func23, Try.ntmps23
  go_wp2_with (go_at_call 47; refine (listS_any s _ hs).mono ?_; rintro e w' ⟨v, rfl, ho, hB⟩)
  go_ret3
  exact ⟨v, rfl, ho, hB⟩

set_option maxRecDepth 100000 in
set_option maxHeartbeats 1000000 in
theorem getInts_any (s : ByteArray) (w : World) (hs : s.size ≤ 1000000000) :
    Calls Try.prog 25 #[.string s] w (RetI w.heap.size (V.getInts (L s)) w) := by
  go_enter Try.func25, Try.ntmps25
  go_wp2_with (go_at_call 48; refine (listI_any s _ hs).mono ?_; rintro e w' ⟨v, rfl, ho, hB⟩)
  go_ret3
  exact ⟨v, rfl, ho, hB⟩

/-- what an owned slice holds, as cells -/
theorem owns_cells {w : World} {B : Nat} {e : TypeId} {ao : Option Addr} {n cap : Nat} {xs : List Value} {f : Nat → Value} (h : w.ownsRow B e 1 (.slice ao n cap) n xs) (hf : ∀ i, i < n → xs[i]? = some (f i)) : Cells w ao n f := by
  intro i hi
  rcases h.2 with ⟨hv, h0⟩ | ⟨g, c, cur, hv, _⟩
  · omega
  · injection hv with h1 h2 h3
    subst h1 h3
    refine ⟨g, 0, rfl, ?_⟩
    have := h.cells rfl i (f i) (hf i hi)
    by_cases h0 : i = 0
    · subst h0; simpa [Addr.add] using this
    · simpa [Addr.add, h0] using this

theorem ownsS_cells {w : World} {B : Nat} {v : Value} {xs : List (List UInt8)} (h : OwnsS B v xs w) : ∃ ao cap, v = .slice ao xs.length cap ∧ Cells w ao xs.length (strAt (xs.map S)) := by
  obtain ⟨ao, cap, hv⟩ := owns_slice h
  refine ⟨ao, cap, hv, ?_⟩
  rw [hv] at h
  refine owns_cells h (fun i hi => ?_)
  simp [strAt, hi]
theorem ownsI_cells {w : World} {B : Nat} {v : Value} {xs : List Int} (h : OwnsI B v xs w) : ∃ ao cap, v = .slice ao xs.length cap ∧ Cells w ao xs.length (intAt xs) := by
  obtain ⟨ao, cap, hv⟩ := owns_slice h
  refine ⟨ao, cap, hv, ?_⟩
  rw [hv] at h
  refine owns_cells h (fun i hi => ?_)
  simp [intAt, hi]

/-- the world, but for draws -/
def Drawn (w w' : World) : Prop := ∃ q, w' = w.drewN q
theorem Drawn.refl (w : World) : Drawn w w := ⟨0, rfl⟩
theorem Drawn.below {w w' : World} (h : Drawn w w') (B : Nat) : Below B w w' := by
  obtain ⟨q, rfl⟩ := h; exact below_drewN (Below.refl _ _) q

theorem take_eq_step {α : Type} (xs ys : List α) (k : Nat) (d : α) (hx : k < xs.length) (hy : k < ys.length) (h : xs.take k = ys.take k) (e : xs.getD k d = ys.getD k d) : xs.take (k + 1) = ys.take (k + 1) := by
  rw [take_snoc' xs k d hx, take_snoc' ys k d hy, h, e]
theorem getD_ne {α : Type} (xs ys : List α) (k : Nat) (d : α) (h : xs.getD k d ≠ ys.getD k d) : xs ≠ ys := fun e => h (by rw [e])

def RetB (b : Bool) (w : World) (e : Ending) (w' : World) : Prop := e = .returned (.bool b) ∧ Drawn w w'

theorem retB {a b : Bool} (h : a = b) : Ending.returned (.bool a) = .returned (.bool b) := by rw [h]
theorem bytes_eq {x y : ByteArray} (h : (!x.toList == y.toList) = false) : x = y := by
  have h1 : x.toList = y.toList := by simpa using h
  rw [Lib.toList_data, Lib.toList_data] at h1
  exact S_ext h1
theorem bytes_ne {x y : ByteArray} (h : (!x.toList == y.toList) = true) : x ≠ y := by
  intro e; subst e; simp at h

theorem int_eq {x y : Int} (h : (x != y) = false) : x = y := by simpa using h

set_option maxRecDepth 100000 in
set_option maxHeartbeats 2000000 in
theorem same_any (xs ys : List ByteArray) (ao bo : Option Addr) (ca cb : Nat) (w : World) (ha : Cells w ao xs.length (strAt xs)) (hb : Cells w bo ys.length (strAt ys)) (hn : xs.length ≤ 9223372036854775807) :
    Calls Try.prog 22 #[.slice ao xs.length ca, .slice bo ys.length cb] w (RetB (decide (xs = ys)) w) := by
  have Ha := Lib.hid ha; clear ha
  have Hb := Lib.hid hb; clear hb
  by_cases hl : xs.length = ys.length
  · have hl1 : ((xs.length : Int) != ys.length) = false := by simp [hl]
    have Hl := Lib.hid hl; clear hl
    go_enter Try.func22, Try.ntmps22
    go_wp2_with fail
    go_loopw [5] (fun i wr => ∃ k : Nat, i = .int .i64 k ∧ k ≤ xs.length ∧ xs.take k = ys.take k ∧ Drawn w wr) (fun i _ => xs.length - (RowKit.intOf i).toNat)
    case atStart => exact ⟨0, rfl, by omega, rfl, Drawn.refl _⟩
    case round =>
      obtain ⟨k, rfl, hk, htk, hD⟩ := hrel
      have Htk := Lib.hid htk; clear htk
      obtain ⟨q, rfl⟩ := hD
      by_cases hlt : k < xs.length
      · obtain ⟨b, off, hao, hcell⟩ := Ha.out k hlt
        obtain ⟨b', off', hbo, hcell'⟩ := Hb.out k (by have := Hl.out; omega)
        have hk2 : k < ys.length := by have := Hl.out; omega
        subst hao hbo
        have h1 : w.cell? ⟨b, off + k, none⟩ = some (.string (xs.getD k ByteArray.empty)) := hcell
        have h2 : w.cell? ⟨b', off' + k, none⟩ = some (.string (ys.getD k ByteArray.empty)) := hcell'
        clear hcell hcell'
        have hk3 : (k : Int) < (xs.length : Int) := by omega
        have hk4 : (k : Int) < (ys.length : Int) := by omega
        have Hstep := Lib.hid (take_eq_step xs ys k ByteArray.empty hlt hk2 Htk.out)
        have Hne := Lib.hid (getD_ne xs ys k ByteArray.empty)
        generalize xs.getD k ByteArray.empty = x at h1 Hstep Hne
        generalize ys.getD k ByteArray.empty = y at h2 Hstep Hne
        go_wp2_with fail
        go_quiet (fail)
        go_wp2_with fail
        · have h : (!x.toList == y.toList) = true := by assumption
          go_ret
          exact ⟨retB (decide_eq_false (Hne.out (bytes_ne h))).symm, ⟨q + nq, by simp⟩⟩
        · have h : (!x.toList == y.toList) = false := by assumption
          go_roundw
          case rel => exact ⟨k + 1, by go_num, by omega, Hstep.out (bytes_eq h), ⟨q + nq, rfl⟩⟩
          case measure => simp [RowKit.intOf]; omega
      · have hall : xs = ys := by
          have h1 := Htk.out
          rw [List.take_of_length_le (by omega), List.take_of_length_le (by have := Hl.out; omega)] at h1
          exact h1
        have Hall := Lib.hid hall; clear hall
        go_wp2_with fail
        go_ret
        exact ⟨retB (decide_eq_true Hall.out).symm, ⟨q, rfl⟩⟩
  · have hl1 : ((xs.length : Int) != ys.length) = true := by simp; omega
    have hd : decide (xs = ys) = false := decide_eq_false (fun h => hl (by rw [h]))
    rw [hd]
    clear hd hl
    go_enter Try.func22, Try.ntmps22
    go_wp2_with fail
    go_ret
    exact ⟨rfl, Drawn.refl _⟩

set_option maxRecDepth 100000 in
set_option maxHeartbeats 2000000 in
theorem ints_any (xs ys : List Int) (ao bo : Option Addr) (ca cb : Nat) (w : World) (ha : Cells w ao xs.length (intAt xs)) (hb : Cells w bo ys.length (intAt ys)) (hn : xs.length ≤ 9223372036854775807) :
    Calls Try.prog 27 #[.slice ao xs.length ca, .slice bo ys.length cb] w (RetB (decide (xs = ys)) w) := by
  have Ha := Lib.hid ha; clear ha
  have Hb := Lib.hid hb; clear hb
  by_cases hl : xs.length = ys.length
  · have hl1 : ((xs.length : Int) != ys.length) = false := by simp [hl]
    have Hl := Lib.hid hl; clear hl
    go_enter Try.func27, Try.ntmps27
    go_wp2_with fail
    go_loopw [5] (fun i wr => ∃ k : Nat, i = .int .i64 k ∧ k ≤ xs.length ∧ xs.take k = ys.take k ∧ Drawn w wr) (fun i _ => xs.length - (RowKit.intOf i).toNat)
    case atStart => exact ⟨0, rfl, by omega, rfl, Drawn.refl _⟩
    case round =>
      obtain ⟨k, rfl, hk, htk, hD⟩ := hrel
      have Htk := Lib.hid htk; clear htk
      obtain ⟨q, rfl⟩ := hD
      by_cases hlt : k < xs.length
      · obtain ⟨b, off, hao, hcell⟩ := Ha.out k hlt
        obtain ⟨b', off', hbo, hcell'⟩ := Hb.out k (by have := Hl.out; omega)
        have hk2 : k < ys.length := by have := Hl.out; omega
        subst hao hbo
        have h1 : w.cell? ⟨b, off + k, none⟩ = some (.int .i64 (xs.getD k 0)) := hcell
        have h2 : w.cell? ⟨b', off' + k, none⟩ = some (.int .i64 (ys.getD k 0)) := hcell'
        clear hcell hcell'
        have hk3 : (k : Int) < (xs.length : Int) := by omega
        have hk4 : (k : Int) < (ys.length : Int) := by omega
        have Hstep := Lib.hid (take_eq_step xs ys k 0 hlt hk2 Htk.out)
        have Hne := Lib.hid (getD_ne xs ys k 0)
        generalize xs.getD k 0 = x at h1 Hstep Hne
        generalize ys.getD k 0 = y at h2 Hstep Hne
        go_wp2_with fail
        go_quiet (fail)
        go_wp2_with fail
        · have h : (x != y) = true := by assumption
          go_ret
          exact ⟨retB (decide_eq_false (Hne.out (bne_iff_ne.1 h))).symm, ⟨q + nq, by simp⟩⟩
        · have h : (x != y) = false := by assumption
          go_roundw
          case rel => exact ⟨k + 1, by go_num, by omega, Hstep.out (int_eq h), ⟨q + nq, rfl⟩⟩
          case measure => simp [RowKit.intOf]; omega
      · have hall : xs = ys := by
          have h1 := Htk.out
          rw [List.take_of_length_le (by omega), List.take_of_length_le (by have := Hl.out; omega)] at h1
          exact h1
        have Hall := Lib.hid hall; clear hall
        go_wp2_with fail
        go_ret
        exact ⟨retB (decide_eq_true Hall.out).symm, ⟨q, rfl⟩⟩
  · have hl1 : ((xs.length : Int) != ys.length) = true := by simp; omega
    have hd : decide (xs = ys) = false := decide_eq_false (fun h => hl (by rw [h]))
    rw [hd]
    clear hd hl
    go_enter Try.func27, Try.ntmps27
    go_wp2_with fail
    go_ret
    exact ⟨rfl, Drawn.refl _⟩

end Go.Proofs.Ytapembonmcolhaa
