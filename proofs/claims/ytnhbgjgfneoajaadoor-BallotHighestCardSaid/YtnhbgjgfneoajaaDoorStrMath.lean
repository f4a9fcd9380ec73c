/-
  Plain codes of strings, integers and lists: no program in sight.
-/
import Derived.Test.YtnhbgjgfneoajaaDoorMath
namespace Go.Proofs.YtnhbgjgfneoajaaDoor.V

/-- a string behind a varint that has been read -/
def strOf (l : List UInt8) (r : Nat × Nat × Nat) : List UInt8 × Nat × Nat :=
  if r.2.2 ≠ 0 then ([], 0, r.2.2) else if l.length - r.2.1 < r.1 then ([], 0, 9) else ((l.drop r.2.1).take r.1, r.2.1 + r.1, 0)
def getStr (l : List UInt8) : List UInt8 × Nat × Nat := strOf l (get l)
def putStr (l : List UInt8) : List UInt8 := put l.length ++ l

/-- the number of an integer, and back -/
def zig (n : Int) : Nat := if 0 ≤ n then (2 * n).toNat else (2 * (-(n + 1)) + 1).toNat
def unzig (u : Nat) : Int := if u % 2 = 0 then ((u / 2 : Nat) : Int) else -((u / 2 : Nat) : Int) - 1
theorem unzig_zig (n : Int) : unzig (zig n) = n := by unfold unzig zig; split <;> split <;> omega
theorem zig_lt (n : Int) (h : -9223372036854775808 ≤ n) (h' : n ≤ 9223372036854775807) : zig n < 18446744073709551616 := by unfold zig; split <;> omega

def intOf (r : Nat × Nat × Nat) : Int × Nat × Nat := if r.2.2 ≠ 0 then (0, 0, r.2.2) else (unzig r.1, r.2.1, 0)
def getInt (l : List UInt8) : Int × Nat × Nat := intOf (get l)
def putInt (n : Int) : List UInt8 := put (zig n)

theorem unzig_bound (u : Nat) (h : u < 18446744073709551616) : -9223372036854775808 ≤ unzig u ∧ unzig u ≤ 9223372036854775807 := by
  unfold unzig; split <;> omega

/-- the parts of a list: n of them, from the text r on, of which the first byte is number at -/
def listF {T : Type} (part : List UInt8 → T × Nat × Nat) : Nat → List UInt8 → Nat → List T → List T × Nat × Nat
  | 0, _, at_, acc => (acc, at_, 0)
  | n + 1, r, at_, acc => if (part r).2.2 ≠ 0 then ([], 0, (part r).2.2) else listF part n (r.drop (part r).2.1) (at_ + (part r).2.1) (acc ++ [(part r).1])
def listOf {T : Type} (part : List UInt8 → T × Nat × Nat) (l : List UInt8) (r : Nat × Nat × Nat) : List T × Nat × Nat :=
  if r.2.2 ≠ 0 then ([], 0, r.2.2) else listF part r.1 (l.drop r.2.1) r.2.1 []
def getListOf {T : Type} (part : List UInt8 → T × Nat × Nat) (l : List UInt8) : List T × Nat × Nat := listOf part l (get l)
def getStrs (l : List UInt8) : List (List UInt8) × Nat × Nat := getListOf getStr l
def getInts (l : List UInt8) : List Int × Nat × Nat := getListOf getInt l
def putList (l : List (List UInt8)) : List UInt8 := put l.length ++ l.flatMap putStr
def putInts (l : List Int) : List UInt8 := put l.length ++ l.flatMap putInt

/-- a part that is read takes at least a byte, and no more than there are -/
def Part {T : Type} (part : List UInt8 → T × Nat × Nat) : Prop := ∀ l, (part l).2.2 ≤ 9 ∧ ((part l).2.2 = 0 → 1 ≤ (part l).2.1 ∧ (part l).2.1 ≤ l.length)

theorem getStr_part : Part getStr := by
  intro l
  have h := get_bound l
  unfold getStr strOf
  split
  · rename_i h1; exact ⟨h.2.2.2.1, fun h2 => absurd h2 h1⟩
  · split
    · simp
    · simp; omega
theorem getInt_part : Part getInt := by
  intro l
  have h := get_bound l
  unfold getInt intOf
  split
  · rename_i h1; exact ⟨h.2.2.2.1, fun h2 => absurd h2 h1⟩
  · simp; omega

theorem getStr_err (l : List UInt8) (h : (getStr l).2.2 ≠ 0) : getStr l = ([], 0, (getStr l).2.2) := by
  revert h; unfold getStr strOf; split
  · simp
  · split <;> simp
theorem getInt_err (l : List UInt8) (h : (getInt l).2.2 ≠ 0) : getInt l = (0, 0, (getInt l).2.2) := by
  revert h; unfold getInt intOf; split <;> simp

theorem getStr_putStr (x r : List UInt8) (h : x.length < 18446744073709551616) : getStr (putStr x ++ r) = (x, (putStr x).length, 0) := by
  unfold getStr putStr
  rw [List.append_assoc, get_put _ _ h]
  unfold strOf
  simp

theorem getInt_putInt (n : Int) (r : List UInt8) (h : -9223372036854775808 ≤ n) (h' : n ≤ 9223372036854775807) : getInt (putInt n ++ r) = (n, (putInt n).length, 0) := by
  unfold getInt putInt
  rw [get_put _ _ (zig_lt n h h')]
  unfold intOf
  simp [unzig_zig]

theorem listF_put {T : Type} (part : List UInt8 → T × Nat × Nat) (code : T → List UInt8) (ok : T → Prop) (hp : ∀ x r, ok x → part (code x ++ r) = (x, (code x).length, 0)) :
    ∀ (xs : List T) (r : List UInt8) (at_ : Nat) (acc : List T), (∀ x ∈ xs, ok x) → listF part xs.length (xs.flatMap code ++ r) at_ acc = (acc ++ xs, at_ + (xs.flatMap code).length, 0)
  | [], r, at_, acc, _ => by simp [listF]
  | x :: xs, r, at_, acc, h => by
    have h1 := hp x (xs.flatMap code ++ r) (h x (by simp))
    simp only [List.flatMap_cons, List.append_assoc, List.length_cons, listF]
    rw [h1]
    simp only [ne_eq, not_true, if_false, List.drop_left]
    rw [listF_put part code ok hp xs r _ _ (fun y hy => h y (by simp [hy]))]
    simp
    omega

theorem getStrs_putList (xs : List (List UInt8)) (r : List UInt8) (h : xs.length < 18446744073709551616) (hx : ∀ x ∈ xs, x.length < 18446744073709551616) :
    getStrs (putList xs ++ r) = (xs, (putList xs).length, 0) := by
  unfold getStrs getListOf putList
  rw [List.append_assoc, get_put _ _ h]
  unfold listOf
  simp only [ne_eq, not_true, if_false, List.drop_left]
  rw [listF_put getStr putStr (fun x => x.length < 18446744073709551616) (fun x r hx => getStr_putStr x r hx) xs r _ _ hx]
  simp

theorem getInts_putInts (xs : List Int) (r : List UInt8) (h : xs.length < 18446744073709551616) (hx : ∀ x ∈ xs, -9223372036854775808 ≤ x ∧ x ≤ 9223372036854775807) :
    getInts (putInts xs ++ r) = (xs, (putInts xs).length, 0) := by
  unfold getInts getListOf putInts
  rw [List.append_assoc, get_put _ _ h]
  unfold listOf
  simp only [ne_eq, not_true, if_false, List.drop_left]
  rw [listF_put getInt putInt (fun x => -9223372036854775808 ≤ x ∧ x ≤ 9223372036854775807) (fun x r hx => getInt_putInt x r hx.1 hx.2) xs r _ _ hx]
  simp

/-- what a list that is read takes: at least a byte a part, and no more than there are -/
theorem listF_bound {T : Type} (part : List UInt8 → T × Nat × Nat) (hp : Part part) :
    ∀ (n : Nat) (r : List UInt8) (at_ : Nat) (acc : List T), (listF part n r at_ acc).2.2 ≤ 9 ∧
      ((listF part n r at_ acc).2.2 = 0 → (listF part n r at_ acc).1.length = acc.length + n ∧ n ≤ r.length ∧ at_ ≤ (listF part n r at_ acc).2.1 ∧ (listF part n r at_ acc).2.1 ≤ at_ + r.length) ∧
      ((listF part n r at_ acc).2.2 ≠ 0 → listF part n r at_ acc = ([], 0, (listF part n r at_ acc).2.2))
  | 0, r, at_, acc => by simp [listF]
  | n + 1, r, at_, acc => by
    have h := hp r
    rw [listF]
    split
    · rename_i h1
      exact ⟨h.1, fun h2 => absurd h2 h1, fun _ => rfl⟩
    · rename_i h1
      have h2 := listF_bound part hp n (r.drop (part r).2.1) (at_ + (part r).2.1) (acc ++ [(part r).1])
      refine ⟨h2.1, fun h3 => ?_, h2.2.2⟩
      have h4 := h2.2.1 h3
      simp only [List.length_drop, List.length_append, List.length_cons, List.length_nil] at h4
      have := h.2 (by omega)
      omega

theorem getListOf_bound {T : Type} (part : List UInt8 → T × Nat × Nat) (hp : Part part) (l : List UInt8) :
    (getListOf part l).2.2 ≤ 9 ∧ ((getListOf part l).2.2 = 0 → 1 ≤ (getListOf part l).2.1 ∧ (getListOf part l).2.1 ≤ l.length ∧ (getListOf part l).1.length ≤ l.length) ∧
      ((getListOf part l).2.2 ≠ 0 → getListOf part l = ([], 0, (getListOf part l).2.2)) := by
  have h := get_bound l
  unfold getListOf listOf
  split
  · rename_i h1; exact ⟨h.2.2.2.1, fun h2 => absurd h2 h1, fun _ => rfl⟩
  · rename_i h1
    have h2 := listF_bound part hp (get l).1 (l.drop (get l).2.1) (get l).2.1 []
    refine ⟨h2.1, fun h3 => ?_, h2.2.2⟩
    have h4 := h2.2.1 h3
    simp only [List.length_drop, List.length_nil] at h4
    omega

end Go.Proofs.YtnhbgjgfneoajaaDoor.V
