/-
  The program's Reader: what stands in its two cells, and what each method does to them.
-/
import Derived.Test.YtkabkcokklgfoaaSame
import Derived.Test.YtkabkcokklgfoaaBlk
import Derived.Laws.Pointers
set_option linter.unusedVariables false
namespace Go.Proofs.Ytkabkcokklgfoaa
namespace V
/-- reading from what is left, unless there was an error: the value, what is left then, the error -/
def rd {T : Type} (none : T) (p : List UInt8 → T × Nat × Nat) (l : List UInt8) (e : Nat) : T × List UInt8 × Nat :=
  if e ≠ 0 then (none, l, e) else if (p l).2.2 ≠ 0 then (none, l, (p l).2.2) else ((p l).1, l.drop (p l).2.1, 0)
def fin (l : List UInt8) (e : Nat) : Nat := if e = 0 ∧ l ≠ [] then 2 else e
end V
open Go.RowKit

/-- a Reader in block b: what is left, and the error -/
def IsReader (b : Nat) (l : List UInt8) (e : Nat) (w : World) : Prop := w.heap[b]? = some (.cells #[.string (S l), .int .i64 e] 53 (0, 0))

theorem IsReader.lt {b : Nat} {l : List UInt8} {e : Nat} {w : World} (h : IsReader b l e w) : b < w.heap.size := (Array.getElem?_eq_some_iff.1 h).1
theorem IsReader.keep {b : Nat} {l : List UInt8} {e : Nat} {w w' : World} (h : IsReader b l e w) (hB : Below w.heap.size w w') : IsReader b l e w' := (hB.block b h.lt).trans h
theorem IsReader.cell0 {b : Nat} {l : List UInt8} {e : Nat} {w : World} (h : IsReader b l e w) : w.cell? ⟨b, 0, none⟩ = some (.string (S l)) := by rw [Lib.cell_of_heap h]; rfl
theorem IsReader.cell1 {b : Nat} {l : List UInt8} {e : Nat} {w : World} (h : IsReader b l e w) : w.cell? ⟨b, 1, none⟩ = some (.int .i64 e) := by rw [Lib.cell_of_heap h]; rfl
theorem IsReader.free {b : Nat} {l : List UInt8} {e : Nat} {w : World} (h : IsReader b l e w) (j : Nat) : w.frozen? ⟨b, j, none⟩ = false := Lib.frozen_of_heap h j
theorem IsReader.set0 {b : Nat} {l : List UInt8} {e : Nat} {w : World} (h : IsReader b l e w) (l' : List UInt8) : IsReader b l' e (w.setCell ⟨b, 0, none⟩ (.string (S l'))) := by
  unfold IsReader at *
  simp [World.setCell, Array.getElem?_modify, h]
theorem IsReader.set1 {b : Nat} {l : List UInt8} {e : Nat} {w : World} (h : IsReader b l e w) (e' : Nat) : IsReader b l e' (w.setCell ⟨b, 1, none⟩ (.int .i64 e')) := by
  unfold IsReader at *
  simp [World.setCell, Array.getElem?_modify, h]

set_option maxRecDepth 100000 in
set_option maxHeartbeats 1000000 in
theorem newReader_any (s : ByteArray) (w : World) :
    Calls Try.prog 15 #[.string s] w fun e w' => e = .returned (.pointer (some ⟨w.heap.size, 0, none⟩)) ∧ w' = w.alloc (.cells #[.string s, .int .i64 0] 53) := by
  go_enter Try.func15, Try.ntmps15
  go_wp2
  go_ret
  exact ⟨rfl, rfl⟩

set_option maxRecDepth 100000 in
set_option maxHeartbeats 1000000 in
theorem end_any (b : Nat) (l : List UInt8) (e : Nat) (w : World) (h : IsReader b l e w) (he : e ≤ 9) :
    Calls Try.prog 17 #[.pointer (some ⟨b, 0, none⟩)] w fun x w' => x = .returned (.int .i64 (V.fin l e)) ∧ w = w' := by
  have h0 := h.cell0
  have h1 := h.cell1
  by_cases hz : e = 0
  · subst hz
    by_cases hl : l = []
    · subst hl
      clear h
      go_enter Try.func17, Try.ntmps17
      go_wp2
      go_ret
      exact ⟨rfl, rfl⟩
    · have hl' : l.isEmpty = false := by cases l <;> simp_all
      have Hf := Lib.hid (show V.fin l 0 = 2 by unfold V.fin; rw [if_pos ⟨rfl, hl⟩])
      clear h hl
      go_enter Try.func17, Try.ntmps17
      go_wp2
      go_ret
      exact ⟨retI (by rw [Hf.out]; rfl), rfl⟩
  · have hz' : ((e : Int) == 0) = false := by simp; omega
    have Hf := Lib.hid (show V.fin l e = e by unfold V.fin; rw [if_neg (fun h => hz h.1)])
    clear h
    go_enter Try.func17, Try.ntmps17
    go_wp2
    go_ret
    exact ⟨retI (by rw [Hf.out]), rfl⟩

theorem rd_err {T : Type} (d : T) (p : List UInt8 → T × Nat × Nat) (l : List UInt8) (e : Nat) (h : e ≠ 0) : V.rd d p l e = (d, l, e) := by unfold V.rd; rw [if_pos h]
theorem rd_bad {T : Type} (d : T) (p : List UInt8 → T × Nat × Nat) (l : List UInt8) (x : T) (q f : Nat) (hp : p l = (x, q, f)) (h : f ≠ 0) : V.rd d p l 0 = (d, l, f) := by unfold V.rd; rw [hp]; simp [h]
theorem rd_ok {T : Type} (d : T) (p : List UInt8 → T × Nat × Nat) (l : List UInt8) (x : T) (q : Nat) (hp : p l = (x, q, 0)) : V.rd d p l 0 = (x, l.drop q, 0) := by unfold V.rd; rw [hp]; simp
theorem S_from (l : List UInt8) (q : Nat) (h : q ≤ l.length) : (S l).extract q l.length = S (l.drop q) := by
  have e := S_extract (S l) q (l.length - q)
  rw [show q + (l.length - q) = l.length from by omega, L_S, List.take_of_length_le (by rw [List.length_drop]; omega)] at e
  exact e



set_option maxRecDepth 100000 in
set_option maxHeartbeats 1000000 in
theorem readString_any (b : Nat) (l : List UInt8) (e : Nat) (w : World) (h : IsReader b l e w) (he : e ≤ 9) (hl : l.length ≤ 1000000000) :
    Calls Try.prog 29 #[.pointer (some ⟨b, 0, none⟩), .func (Fn.func 30) #[] #[]] w fun x w' => x = .returned (.string (S (V.rd [] V.getStr l e).1)) ∧ IsReader b (V.rd [] V.getStr l e).2.1 (V.rd [] V.getStr l e).2.2 w' ∧ Keeps b w w' := by
  have h0 := h.cell0
  have h1 := h.cell1
  have f0 := h.free 0
  have f1 := h.free 1
  by_cases hz : e = 0
  · subst hz
    have P := getString_any (S l) w (by rw [S_size]; omega)
    have hpb := V.getStr_part l
    rw [L_S] at P
    obtain ⟨p, hp⟩ : ∃ p, V.getStr l = p := ⟨_, rfl⟩
    rw [hp] at P hpb
    obtain ⟨x, q, f⟩ := p
    have HP := Lib.hid P; clear P
    by_cases hf : f = 0
    · subst hf
      have hq := (hpb.2 rfl).2
      simp only at hq
      rw [rd_ok _ _ l x q hp]
      have H := Lib.hid h; clear h hp hpb
      have hq' : q ≤ (S l).size := by rw [S_size]; exact hq
      go_enter Try.func29, Try.ntmps29
      go_wp2_with (go_at_call 30; refine HP.out.mono ?_; rintro e w' ⟨rfl, rfl⟩)
      go_ret
      rw [S_from l q hq]
      exact ⟨rfl, H.out.set0 _, Keeps.set b w 0 _⟩
    · rw [rd_bad _ _ l x q f hp hf]
      have hf' : ((f : Int) != 0) = true := by simp; omega
      have H := Lib.hid h; clear h hp hpb
      go_enter Try.func29, Try.ntmps29
      go_wp2_with (go_at_call 30; refine HP.out.mono ?_; rintro e w' ⟨rfl, rfl⟩)
      go_ret
      exact ⟨rfl, H.out.set1 _, Keeps.set b w 1 _⟩
  · rw [rd_err _ _ l e hz]
    have hz' : ((e : Int) != 0) = true := by simp; omega
    have H := Lib.hid h; clear h
    go_enter Try.func29, Try.ntmps29
    go_wp2_with fail
    go_ret
    exact ⟨rfl, H.out, Keeps.refl b w⟩

set_option maxRecDepth 100000 in
set_option maxHeartbeats 1000000 in
theorem string_any (b : Nat) (l : List UInt8) (e : Nat) (w : World) (h : IsReader b l e w) (he : e ≤ 9) (hl : l.length ≤ 1000000000) :
    Calls Try.prog 16 #[.pointer (some ⟨b, 0, none⟩)] w fun x w' => x = .returned (.string (S (V.rd [] V.getStr l e).1)) ∧ IsReader b (V.rd [] V.getStr l e).2.1 (V.rd [] V.getStr l e).2.2 w' ∧ Keeps b w w' := by
  go_enter Try.func16, Try.ntmps16
  go_wp2_with (go_at_call 29; refine (readString_any b l e _ h he hl).mono ?_; rintro x w' ⟨rfl, h1, h2⟩)
  go_ret
  exact ⟨rfl, h1, h2⟩

/-- what reading a list leaves -/
def RdL (b : Nat) (r : List (List UInt8) × List UInt8 × Nat) (w : World) (x : Ending) (w' : World) : Prop :=
  ∃ v, x = .returned v ∧ OwnsS w.heap.size v r.1 w' ∧ IsReader b r.2.1 r.2.2 w' ∧ Keeps b w w'

theorem ownsS_set {B : Nat} {v : Value} {xs : List (List UInt8)} {w : World} (h : OwnsS B v xs w) {b : Nat} (hb : b < B) (j : Nat) (x : Value) : OwnsS B v xs (w.setCell ⟨b, j, none⟩ x) :=
  RowKit.ownsRow_setCell_below h (a := ⟨b, j, none⟩) hb _

theorem getStrs_part : V.Part V.getStrs := by
  intro l
  have h := V.getListOf_bound V.getStr V.getStr_part l
  exact ⟨h.1, fun h0 => ⟨(h.2.1 h0).1, (h.2.1 h0).2.1⟩⟩



end Go.Proofs.Ytkabkcokklgfoaa
