/-
  Sets of servers as words of 16 bits; lists of sets in memory; what a list accepts, what hits a list.
-/
import Derived.Test.YtjjmnpgbcgkcpaaDoorProg
import Derived.WalkKit
import Derived.BigQuiet
import Derived.Below
import Derived.Lib.Hide
import Derived.Laws.Rows
import Derived.Deep.Cut
import Derived.Deep.QuietTactic
import Derived.Deep.MidRow
import Derived.Laws.Append
import Derived.Laws.AppendOwn
import Derived.Laws.Cover1
set_option linter.unusedVariables false
namespace Go.Proofs.YtjjmnpgbcgkcpaaDoor
open Go.RowKit

/-- a set, and its value -/
abbrev V := BitVec 16
def M (a : V) : Int := (a.toNat : Int)
theorem M_lt (a : V) : M a < 65536 := by have := a.isLt; unfold M; omega
theorem M_ge (a : V) : 0 ≤ M a := by unfold M; omega
theorem M_inj {a b : V} (h : M a = M b) : a = b := BitVec.eq_of_toNat_eq (by unfold M at h; omega)
theorem wrap_M (a : V) : IntKind.u16.wrap (M a) = M a := by unfold M; rw [IntKind.wrap_u16]; have := a.isLt; omega
theorem ofInt_M (a : V) : BitVec.ofInt 16 (M a) = a := by
  apply BitVec.eq_of_toNat_eq
  rw [BitVec.toNat_ofInt]
  unfold M
  have := a.isLt
  omega
theorem mand (a b : V) : bits .and .u16 (M a) (M b) = M (a &&& b) := by
  show IntKind.u16.wrap (((BitVec.ofInt 16 (M a)) &&& (BitVec.ofInt 16 (M b))).toNat : Int) = _
  rw [ofInt_M, ofInt_M]; exact wrap_M _
theorem mor (a b : V) : bits .or .u16 (M a) (M b) = M (a ||| b) := by
  show IntKind.u16.wrap (((BitVec.ofInt 16 (M a)) ||| (BitVec.ofInt 16 (M b))).toNat : Int) = _
  rw [ofInt_M, ofInt_M]; exact wrap_M _
theorem mandNot (a b : V) : bits .andNot .u16 (M a) (M b) = M (a &&& ~~~b) := by
  show IntKind.u16.wrap (((BitVec.ofInt 16 (M a)) &&& ~~~(BitVec.ofInt 16 (M b))).toNat : Int) = _
  rw [ofInt_M, ofInt_M]; exact wrap_M _
theorem M_zero (a : V) : (M a == 0) = (a == 0#16) := by
  rw [Bool.eq_iff_iff, beq_iff_eq, beq_iff_eq]
  exact ⟨fun h => M_inj (a := a) (b := 0#16) (by rw [h]; rfl), fun h => by rw [h]; rfl⟩

/-- the cells of a slice: element i lies behind its head -/
def Cells (w : World) (ao : Option Addr) (n : Nat) (f : Nat → Value) : Prop :=
  ∀ i, i < n → ∃ b off, ao = some ⟨b, off, none⟩ ∧ w.cell? ⟨b, off + i, none⟩ = some (f i)
theorem cell_lt {w : World} {a : Addr} {v : Value} (h : w.cell? a = some v) : a.block < w.heap.size := by
  rcases Nat.lt_or_ge a.block w.heap.size with h' | h'
  · exact h'
  · simp [World.cell?, Array.getElem?_eq_none h'] at h
theorem Cells.keep {w w' : World} {ao : Option Addr} {n : Nat} {f : Nat → Value} (h : Cells w ao n f) (hB : Below w.heap.size w w') : Cells w' ao n f := by
  intro i hi
  obtain ⟨b, off, e, hc⟩ := h i hi
  exact ⟨b, off, e, (hB.cell (cell_lt hc)).trans hc⟩
def setAt (xs : List V) (i : Nat) : Value := .int .u16 (M (xs.getD i 0#16))

/-- v is a slice that reads as the sets xs -/
def Sets (w : World) (v : Value) (xs : List V) : Prop := ∃ ao cap, v = .slice ao xs.length cap ∧ Cells w ao xs.length (setAt xs) ∧ xs.length ≤ cap ∧ xs.length ≤ 100000 ∧ cap ≤ maxLen
theorem Sets.keep {w w' : World} {v : Value} {xs : List V} (h : Sets w v xs) (hB : Below w.heap.size w w') : Sets w' v xs := by
  obtain ⟨ao, cap, e, h1, h2⟩ := h
  exact ⟨ao, cap, e, h1.keep hB, h2⟩

namespace T
def contains (a b : V) : Bool := (b &&& ~~~a) == 0#16
def accepts (f : List V) (s : V) : Bool := f.any fun x => contains s x
def hits (f : List V) (s : V) : Bool := !(f.any fun x => (x &&& s) == 0#16)
def cross (f g : List V) : Bool := !(f.any fun x => !(hits g x))
end T

/-- what is asked of a predicate's closure: it answers for every element, and makes new memory only -/
def Pred (w : World) (g q : Nat) (xs : List V) (pr : V → Bool) : Prop :=
  ∀ x, x ∈ xs → ∀ u, Below w.heap.size w u → Calls Tryd.prog g #[.int .u16 (M x), .pointer (some ⟨q, 0, none⟩)] u fun e u' => e = .returned (.bool (pr x)) ∧ Below u.heap.size u u'

theorem any_take_succ {pr : V → Bool} (xs : List V) (i : Nat) (hi : i < xs.length) (h : (xs.take i).any pr = false) (hp : pr (xs.getD i 0#16) = false) : (xs.take (i + 1)).any pr = false := by
  rw [List.take_add_one, List.getElem?_eq_getElem hi, List.any_append, h]
  rw [List.getD_eq_getElem?_getD, List.getElem?_eq_getElem hi] at hp
  simpa using hp
theorem any_of_getD {pr : V → Bool} (xs : List V) (i : Nat) (hi : i < xs.length) (hp : pr (xs.getD i 0#16) = true) : xs.any pr = true := by
  rw [List.getD_eq_getElem?_getD, List.getElem?_eq_getElem hi] at hp
  exact List.any_eq_true.2 ⟨xs[i], List.getElem_mem hi, by simpa using hp⟩
theorem mem_getD (xs : List V) (i : Nat) (hi : i < xs.length) : xs.getD i 0#16 ∈ xs := by
  rw [List.getD_eq_getElem?_getD, List.getElem?_eq_getElem hi]; exact List.getElem_mem hi

set_option maxRecDepth 100000 in
set_option maxHeartbeats 1000000 in
theorem index_any (g : Nat) (hg : g = 34 ∨ g = 37 ∨ g = 22) (q : Nat) (v : Value) (xs : List V) (pr : V → Bool) (w : World) (hv : Sets w v xs) (hp : Pred w g q xs pr) :
    Calls Tryd.prog 36 #[v, .func (.func g) #[] #[.pointer (some ⟨q, 0, none⟩)]] w fun e w' => (∃ r : Int, e = .returned (.int .i64 r) ∧ (decide (0 ≤ r)) = xs.any pr) ∧ Below w.heap.size w w' := by
  obtain ⟨ao, cap, rfl, hc, _, hn, _⟩ := hv
  rcases hg with rfl | rfl | rfl
  all_goals
    go_enter Tryd.func36, Tryd.ntmps36
    go_wp2_with fail
    go_loopw [8] (fun x wr => ∃ i : Nat, x = .int .i64 (i : Int) ∧ i ≤ xs.length ∧ (xs.take i).any pr = false ∧ Below w.heap.size w wr) (fun x _ => xs.length - (intOf x).toNat)
    case atStart => exact ⟨0, rfl, by omega, rfl, Below.refl _ _⟩
    case round =>
      obtain ⟨i, rfl, hi, hno, hB⟩ := hrel
      by_cases hlt : i < xs.length
      · obtain ⟨b, off, rfl, hcell⟩ := (hc.keep hB) i hlt
        unfold setAt at hcell
        have hP := hp _ (mem_getD xs i hlt)
        have hT := any_take_succ (pr := pr) xs i hlt hno
        have hT2 := any_of_getD (pr := pr) xs i hlt
        generalize xs.getD i 0#16 = x at hcell hP hT hT2
        have hP1 := hP _ hB
        clear hc hp hP
        cases hpx : pr x with
        | true =>
          have hA := hT2 hpx
          rw [hpx] at hP1
          clear hT hT2 hno
          go_wp2_with (refine hP1.mono ?_; rintro e w2 ⟨rfl, hB2⟩)
          go_ret
          exact ⟨⟨_, rfl, by rw [hA]; simp⟩, hB.trans (hB2.mono hB.size)⟩
        | false =>
          have hA := hT hpx
          rw [hpx] at hP1
          clear hT hT2 hno
          go_wp2_with (refine hP1.mono ?_; rintro e w2 ⟨rfl, hB2⟩)
          go_roundw
          case rel => exact ⟨i + 1, by go_num, by omega, hA, hB.trans (hB2.mono hB.size)⟩
          case measure => simp [intOf]; omega
      · obtain rfl : i = xs.length := by omega
        rw [List.take_length] at hno
        go_wp2_with fail
        go_ret
        exact ⟨⟨_, rfl, by rw [hno]; rfl⟩, hB⟩

set_option maxHeartbeats 1000000 in
theorem containsFunc_any (g : Nat) (hg : g = 34 ∨ g = 37 ∨ g = 22) (q : Nat) (v : Value) (xs : List V) (pr : V → Bool) (w : World) (hv : Sets w v xs) (hp : Pred w g q xs pr) :
    Calls Tryd.prog 21 #[v, .func (.func g) #[] #[.pointer (some ⟨q, 0, none⟩)]] w fun e w' => e = .returned (.bool (xs.any pr)) ∧ Below w.heap.size w w' := by
  have hI := index_any g hg q v xs pr w hv hp
  clear hv hp hg
  go_enter Tryd.func21, Tryd.ntmps21
  go_wp2_with (go_at_call 36; refine hI.mono ?_; rintro e w2 ⟨⟨r, rfl, hr⟩, hB⟩)
  go_ret
  exact ⟨by rw [← hr]; rfl, hB⟩

set_option maxHeartbeats 1000000 in
theorem contains_any (a b : V) (w : World) : Calls Tryd.prog 35 #[.int .u16 (M a), .int .u16 (M b)] w fun e w' => e = .returned (.bool (T.contains a b)) ∧ w' = w := by
  have h1 := mandNot
  go_enter Tryd.func35, Tryd.ntmps35
  go_wp2_with fail
  go_ret
  exact ⟨by rw [M_zero]; rfl, rfl⟩

set_option maxHeartbeats 1000000 in
theorem accepts1_any (x s : V) (q : Nat) (w : World) (hq : w.cell? ⟨q, 0, none⟩ = some (.int .u16 (M s))) :
    Calls Tryd.prog 34 #[.int .u16 (M x), .pointer (some ⟨q, 0, none⟩)] w fun e w' => e = .returned (.bool (T.contains s x)) ∧ Below w.heap.size w w' := by
  go_enter Tryd.func34, Tryd.ntmps34
  go_wp2_with (go_at_call 35; refine (contains_any s x _).mono ?_; rintro e w2 ⟨rfl, rfl⟩)
  go_ret
  exact ⟨rfl, Below.refl _ _⟩

set_option maxHeartbeats 1000000 in
theorem hits1_any (x s : V) (q : Nat) (w : World) (hq : w.cell? ⟨q, 0, none⟩ = some (.int .u16 (M s))) :
    Calls Tryd.prog 37 #[.int .u16 (M x), .pointer (some ⟨q, 0, none⟩)] w fun e w' => e = .returned (.bool ((x &&& s) == 0#16)) ∧ Below w.heap.size w w' := by
  have h1 := mand
  go_enter Tryd.func37, Tryd.ntmps37
  go_wp2_with fail
  go_ret
  exact ⟨by rw [M_zero]; rfl, Below.refl _ _⟩

theorem cell_box (w : World) (v : Value) (t : TypeId) : (w.alloc (.cells #[v] t)).cell? ⟨w.heap.size, 0, none⟩ = some v := by
  have h : (w.alloc (.cells #[v] t)).heap[w.heap.size]? = some (.cells #[v] t (0, 0)) := by
    show (w.heap.push _)[w.heap.size]? = _
    simp
  unfold World.cell?
  rw [h]
  rfl
theorem below_box (w : World) (o : Obj) : Below w.heap.size w (w.alloc o) := (Below.refl _ w).alloc (Nat.le_refl _) o

set_option maxHeartbeats 1000000 in
theorem accepts_any (v : Value) (xs : List V) (s : V) (w : World) (hv : Sets w v xs) :
    Calls Tryd.prog 18 #[v, .int .u16 (M s)] w fun e w' => e = .returned (.bool (T.accepts xs s)) ∧ Below w.heap.size w w' := by
  have hB := below_box w (.cells #[.int .u16 (M s)] 33)
  have hC := containsFunc_any 34 (.inl rfl) w.heap.size v xs (fun x => T.contains s x) _ (hv.keep hB)
    (fun x _ u hu => accepts1_any x s w.heap.size u ((hu.cell (by simp)).trans (cell_box w _ _)))
  clear hv
  go_enter Tryd.func18, Tryd.ntmps18
  go_wp2_with (go_at_call 21; refine hC.mono ?_; rintro e w2 ⟨rfl, hB2⟩)
  go_ret
  exact ⟨rfl, hB.trans (hB2.mono hB.size)⟩

set_option maxHeartbeats 1000000 in
theorem hits_any (v : Value) (xs : List V) (s : V) (w : World) (hv : Sets w v xs) :
    Calls Tryd.prog 23 #[v, .int .u16 (M s)] w fun e w' => e = .returned (.bool (T.hits xs s)) ∧ Below w.heap.size w w' := by
  have hB := below_box w (.cells #[.int .u16 (M s)] 33)
  have hC := containsFunc_any 37 (.inr (.inl rfl)) w.heap.size v xs (fun x => (x &&& s) == 0#16) _ (hv.keep hB)
    (fun x _ u hu => hits1_any x s w.heap.size u ((hu.cell (by simp)).trans (cell_box w _ _)))
  clear hv
  go_enter Tryd.func23, Tryd.ntmps23
  go_wp2_with (go_at_call 21; refine hC.mono ?_; rintro e w2 ⟨rfl, hB2⟩)
  go_ret
  exact ⟨rfl, hB.trans (hB2.mono hB.size)⟩

set_option maxHeartbeats 1000000 in
theorem cross1_any (x : V) (v : Value) (xs : List V) (q : Nat) (w : World) (hv : Sets w v xs) (hq : w.cell? ⟨q, 0, none⟩ = some v) :
    Calls Tryd.prog 22 #[.int .u16 (M x), .pointer (some ⟨q, 0, none⟩)] w fun e w' => e = .returned (.bool (!(T.hits xs x))) ∧ Below w.heap.size w w' := by
  have hC := hits_any v xs x w hv
  obtain ⟨ao, cap, rfl, _⟩ := hv
  go_enter Tryd.func22, Tryd.ntmps22
  go_wp2_with (go_at_call 23; refine hC.mono ?_; rintro e w2 ⟨rfl, hB⟩)
  go_ret
  exact ⟨rfl, hB⟩

set_option maxHeartbeats 1000000 in
theorem cross_any (v v2 : Value) (f g : List V) (w : World) (hv : Sets w v f) (hv2 : Sets w v2 g) :
    Calls Tryd.prog 7 #[v, v2] w fun e w' => e = .returned (.bool (T.cross f g)) ∧ Below w.heap.size w w' := by
  have hB := below_box w (.cells #[v2] 28)
  have hC := containsFunc_any 22 (.inr (.inr rfl)) w.heap.size v f (fun x => !(T.hits g x)) _ (hv.keep hB)
    (fun x _ u hu => cross1_any x v2 g w.heap.size u (hv2.keep (hB.trans (hu.mono hB.size))) ((hu.cell (by simp)).trans (cell_box w _ _)))
  obtain ⟨ao, cap, rfl, _⟩ := hv2
  clear hv
  go_enter Tryd.func7, Tryd.ntmps7
  go_wp2_with (go_at_call 21; refine hC.mono ?_; rintro e w2 ⟨rfl, hB2⟩)
  go_ret
  exact ⟨rfl, hB.trans (hB2.mono hB.size)⟩

end Go.Proofs.YtjjmnpgbcgkcpaaDoor
