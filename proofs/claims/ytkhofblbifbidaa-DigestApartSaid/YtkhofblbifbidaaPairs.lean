/-
  A slice of pairs of texts that came in.
-/
import Derived.Test.YtkhofblbifbidaaRowsIn
set_option linter.unusedVariables false
namespace Go.Proofs.Ytkhofblbifbidaa
open Go.ChangeShapes Go.WideShapes Go.ChangeAt Go.RowKit

/-- a slice of pairs of texts: its head, its capacity, the pairs -/
def IsPairs (w : World) (v : Value) (x : Option Addr × Nat × List (ByteArray × ByteArray)) : Prop :=
  v = .slice x.1 x.2.2.length x.2.1 ∧ x.2.2.length ≤ maxLen ∧
    ∀ i q, x.2.2[i]? = some q → q.1.size ≤ maxLen ∧ q.2.size ≤ maxLen ∧ ∃ b off, x.1 = some ⟨b, off, none⟩ ∧ b < w.heap.size ∧ w.rangeAt b (off + i * 2) [.string q.1, .string q.2]

theorem openPairs {H : Type} {enc : TypeId × Value → H} {W : World} {base : Nat} {v : Value} {d : DataW H} {p : List MemPlace} (hv : Value.okWide Try.prog W .any base 32 v)
    (h : DataW.Trod enc Try.prog W 0 (fun _ => true) true 32 v d p) : ∃ x : Option Addr × Nat × List (ByteArray × ByteArray), IsPairs W v x := by
  obtain ⟨a0, len0, cap0, rfl⟩ := okWide_slice Try.underlying32 hv
  obtain ⟨fuel, hf⟩ := h
  rcases rows_in Try.underlying32 (show Try.prog.cellsOf 35 = 2 by kernel_rfl) (by omega) hf with hcs | ⟨a, len, cap, n, hcs, hl, hm, hr⟩
  · simp [Value.cells] at hcs
    obtain ⟨rfl, rfl, rfl⟩ := hcs
    exact ⟨(none, 0, []), rfl, by simp, fun i q hq => by simp at hq⟩
  · simp [Value.cells] at hcs
    obtain ⟨rfl, rfl, rfl⟩ := hcs
    have each : ∀ i, i < len0 → ∃ q : ByteArray × ByteArray, q.1.size ≤ maxLen ∧ q.2.size ≤ maxLen ∧ ∃ b off, a = ⟨b, off, none⟩ ∧ b < W.heap.size ∧ W.rangeAt b (off + i * 2) [.string q.1, .string q.2] := by
      intro i hi
      obtain ⟨r, y, e1, e2, e3, e4, e5⟩ := hr i hi
      obtain ⟨xs, m, _, _, _, hxs, hx⟩ := DataW.trod_array Try.underlying35 e5
      have c1 : Try.prog.cellsOf 9 = 1 := by kernel_rfl
      have hx0 := hx 0 (by omega)
      have hx1 := hx 1 (by omega)
      rw [c1, List.getElem?_eq_getElem (by omega)] at hx0 hx1
      obtain ⟨s0, hs0, _, k0⟩ := DataW.trod_string Try.underlying9 hx0
      obtain ⟨s1, hs1, _, k1⟩ := DataW.trod_string Try.underlying9 hx1
      have hrr : r = [.string s0, .string s1] := by
        match r, e3, hs0, hs1 with
        | [u, v], _, hs0, hs1 =>
          simp at hs0 hs1
          rw [hs0, hs1]
      subst hrr
      exact ⟨(s0, s1), k0, k1, a.block, a.off, e1, e2, e4⟩
    have hall : ∃ xs : List (ByteArray × ByteArray), xs.length = len0 ∧ ∀ i q, xs[i]? = some q → q.1.size ≤ maxLen ∧ q.2.size ≤ maxLen ∧ ∃ b off, a = ⟨b, off, none⟩ ∧ b < W.heap.size ∧ W.rangeAt b (off + i * 2) [.string q.1, .string q.2] := by
      clear hv hf hr hl
      induction len0 with
      | zero => exact ⟨[], rfl, fun i q hq => by simp at hq⟩
      | succ n ih =>
        obtain ⟨xs, hxl, hx⟩ := ih (fun i hi => each i (by omega))
        obtain ⟨q, hq⟩ := each n (by omega)
        refine ⟨xs ++ [q], by simp [hxl], fun i q' hq' => ?_⟩
        by_cases hi : i < xs.length
        · rw [List.getElem?_append_left hi] at hq'
          exact hx i q' hq'
        · rw [List.getElem?_append_right (by omega)] at hq'
          have h0 : i - xs.length = 0 := by
            have := (List.getElem?_eq_some_iff.1 hq').1
            simp at this
            omega
          rw [h0] at hq'
          simp at hq'
          subst hq'
          have : i = n := by omega
          subst this
          exact hq
    obtain ⟨xs, hxl, hx⟩ := hall
    subst hxl
    exact ⟨(some a, cap0, xs), rfl, by simpa using Nat.le_trans hl hm, fun i q hq => by
      obtain ⟨h1, h2, b, off, h3, h4, h5⟩ := hx i q hq
      exact ⟨h1, h2, b, off, by rw [h3], h4, h5⟩⟩

end Go.Proofs.Ytkhofblbifbidaa
