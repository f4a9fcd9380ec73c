/-
  The reference's comparisons of lists, and the program's GetList and GetInts.
-/
import Derived.Test.YtkabkcokklgfoaaList
import Derived.Deep.QuietTactic
import Derived.BigQuiet
import Derived.WalkSmall
set_option linter.unusedVariables false
namespace Go.Proofs.Ytkabkcokklgfoaa
open Go.RowKit


set_option maxRecDepth 100000 in
set_option maxHeartbeats 1000000 in
theorem getInts_any (s : ByteArray) (w : World) (hs : s.size ≤ 1000000000) :
    Calls Try.prog 14 #[.string s] w (RetI w.heap.size (V.getInts (L s)) w) := by
  go_enter Try.func14, Try.ntmps14
  go_wp2_with (go_at_call 27; refine (listI_any s _ hs).mono ?_; rintro e w' ⟨v, rfl, ho, hB⟩)
  go_ret3
  exact ⟨v, rfl, ho, hB⟩

/-- what an owned slice holds, as cells -/
theorem owns_cells {w : World} {B : Nat} {e : TypeId} {ao : Option Addr} {n cap : Nat} {xs : List Value} {f : Nat → Value} (h : w.ownsRow B e 1 (.slice ao n cap) n xs) (hf : ∀ i, i < n → xs[i]? = some (f i)) : Cells w ao n f := by
  intro i hi
  rcases h.2 with ⟨hv, h0⟩ | ⟨g, c, cur, hv, _⟩
  · omega
  · injection hv with h1 h2 h3
    subst h1 h3
    refine ⟨g, 0, rfl, ?_⟩
    have := h.cells rfl i (f i) (hf i hi)
    by_cases h0 : i = 0
    · subst h0; simpa [Addr.add] using this
    · simpa [Addr.add, h0] using this

theorem ownsS_cells {w : World} {B : Nat} {v : Value} {xs : List (List UInt8)} (h : OwnsS B v xs w) : ∃ ao cap, v = .slice ao xs.length cap ∧ Cells w ao xs.length (strAt (xs.map S)) := by
  obtain ⟨ao, cap, hv⟩ := owns_slice h
  refine ⟨ao, cap, hv, ?_⟩
  rw [hv] at h
  refine owns_cells h (fun i hi => ?_)
  simp [strAt, hi]
theorem ownsI_cells {w : World} {B : Nat} {v : Value} {xs : List Int} (h : OwnsI B v xs w) : ∃ ao cap, v = .slice ao xs.length cap ∧ Cells w ao xs.length (intAt xs) := by
  obtain ⟨ao, cap, hv⟩ := owns_slice h
  refine ⟨ao, cap, hv, ?_⟩
  rw [hv] at h
  refine owns_cells h (fun i hi => ?_)
  simp [intAt, hi]

/-- the world, but for draws -/
def Drawn (w w' : World) : Prop := ∃ q, w' = w.drewN q
theorem Drawn.refl (w : World) : Drawn w w := ⟨0, rfl⟩
theorem Drawn.below {w w' : World} (h : Drawn w w') (B : Nat) : Below B w w' := by
  obtain ⟨q, rfl⟩ := h; exact below_drewN (Below.refl _ _) q

theorem take_eq_step {α : Type} (xs ys : List α) (k : Nat) (d : α) (hx : k < xs.length) (hy : k < ys.length) (h : xs.take k = ys.take k) (e : xs.getD k d = ys.getD k d) : xs.take (k + 1) = ys.take (k + 1) := by
  rw [take_snoc' xs k d hx, take_snoc' ys k d hy, h, e]
theorem getD_ne {α : Type} (xs ys : List α) (k : Nat) (d : α) (h : xs.getD k d ≠ ys.getD k d) : xs ≠ ys := fun e => h (by rw [e])

def RetB (b : Bool) (w : World) (e : Ending) (w' : World) : Prop := e = .returned (.bool b) ∧ Drawn w w'

theorem retB {a b : Bool} (h : a = b) : Ending.returned (.bool a) = .returned (.bool b) := by rw [h]
theorem bytes_eq {x y : ByteArray} (h : (!x.toList == y.toList) = false) : x = y := by
  have h1 : x.toList = y.toList := by simpa using h
  rw [Lib.toList_data, Lib.toList_data] at h1
  exact S_ext h1
theorem bytes_ne {x y : ByteArray} (h : (!x.toList == y.toList) = true) : x ≠ y := by
  intro e; subst e; simp at h

theorem int_eq {x y : Int} (h : (x != y) = false) : x = y := by simpa using h



end Go.Proofs.Ytkabkcokklgfoaa
