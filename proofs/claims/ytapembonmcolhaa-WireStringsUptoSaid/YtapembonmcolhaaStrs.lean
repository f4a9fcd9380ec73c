/-
  Slices of strings: opened with a bound on what they hold, copied, and the reference's test of their size.
-/
import Derived.Test.YtapembonmcolhaaRows
import Derived.Test.YtapembonmcolhaaOpen
import Derived.Test.YtapembonmcolhaaSame
set_option linter.unusedVariables false
namespace Go.Proofs.Ytapembonmcolhaa
open Go.ChangeShapes Go.WideShapes Go.ChangeAt Go.RowKit

theorem bulk_strs {H : Type} (zs : List ByteArray) : Rows.uptoBulkAll (zs.map fun s => DataW.lit (H := H) (.string s.data.toList)) = zs.length + tot zs := by
  induction zs with
  | nil => simp [Rows.uptoBulkAll, tot]
  | cons z zs ih =>
    have e : z.data.toList.length = z.size := by rw [Array.length_toList]; rfl
    simp only [List.map_cons, Rows.uptoBulkAll, Rows.uptoBulk, ih, e, tot, List.sum_cons, List.length_cons]
    omega

/-- a slice of strings that came in, with the bound that its bulk gives -/
theorem openStrsB {H : Type} {enc : TypeId × Value → H} {W : World} {base : Nat} {v : Value} {d : DataW H} {p : List MemPlace} (hv : Value.okWide Try.prog W .any base 32 v)
    (h : DataW.Trod enc Try.prog W 0 (fun _ => true) true 32 v d p) : ∃ x : Option Addr × Nat × List ByteArray, IsStrs W v x ∧ x.2.2.length + tot x.2.2 ≤ Rows.uptoBulk d := by
  obtain ⟨a0, len0, cap0, rfl⟩ := okWide_slice Try.underlying32 hv
  obtain ⟨fuel, hf⟩ := h
  rcases open_strings Try.underlying32 Try.underlying9 (by kernel_rfl) hf with ⟨hcs, _⟩ | ⟨x, l, c, zs, hcs, _, hl, hm, hz, hd, hcell, hwz⟩
  · simp [Value.cells] at hcs
    obtain ⟨rfl, rfl, rfl⟩ := hcs
    exact ⟨(none, 0, []), ⟨rfl, fun i hi => absurd hi (by simp), fun x hx => by simp at hx, by simp⟩, by simp [tot]⟩
  · simp [Value.cells] at hcs
    obtain ⟨rfl, rfl, rfl⟩ := hcs
    have hz' : zs.length = cap0 := by simpa using hz
    have htl : (zs.take len0).length = len0 := by rw [List.length_take]; omega
    refine ⟨(some x, cap0, zs.take len0), ⟨by simp [htl], ?_, ?_, by rw [htl]; omega⟩, ?_⟩
    · refine cells_row (fun i hi => ?_)
      simp only [htl] at hi
      rw [hcell i (by omega)]
      simp [strAt, hi]
    · intro y hy
      exact hwz y (List.mem_of_mem_take hy)
    · injection hd with hd _
      subst hd
      have hb := bulk_strs (H := H) (zs.take len0)
      simp only [strs, Rows.uptoBulk, hb]
      omega

/-- a copy of a slice of strings: the same elements -/
def RetCopyS (xs : List ByteArray) (w : World) (e : Ending) (w' : World) : Prop := ∃ ao cap, e = .returned (.slice ao xs.length cap) ∧ Cells w' ao xs.length (strAt xs) ∧ Below w.heap.size w w'

theorem L_map_S (xs : List ByteArray) : (xs.map L).map S = xs := by
  rw [List.map_map]
  exact (List.map_congr_left (fun x _ => by simp [Function.comp, S, L])).trans (List.map_id _)

theorem cloneS_any (xs : List ByteArray) (ao : Option Addr) (cap : Nat) (w : World) (hc : Cells w ao xs.length (strAt xs)) (hn : xs.length ≤ 1000000000) :
    Calls Try.prog 21 #[.slice ao xs.length cap] w (RetCopyS xs w) := by
  have fin : ∀ (v' : Value) (w' : World), w'.ownsRow w.heap.size 9 1 v' xs.length (xs.map Value.string) → ∃ ao cap, v' = .slice ao xs.length cap ∧ Cells w' ao xs.length (strAt xs) := by
    intro v' w' ho
    obtain ⟨ao, cap, rfl⟩ := owns_slice ho
    refine ⟨ao, cap, rfl, owns_cells ho (fun i hi => ?_)⟩
    simp [strAt, hi]
  rcases ao with _ | a
  · have h0 : xs.length = 0 := by
      rcases Nat.eq_zero_or_pos xs.length with h | h
      · exact h
      · obtain ⟨b, off, e, _⟩ := hc 0 h; cases e
    refine (Try.slices_Clone_string_nil xs.length cap w).mono ?_
    rintro e w' ⟨rfl, rfl⟩
    exact ⟨none, 0, by rw [h0], fun i hi => absurd hi (by omega), Below.refl _ _⟩
  · rcases Nat.eq_zero_or_pos xs.length with h0 | h0
    · have hx : xs = [] := List.length_eq_zero_iff.1 h0
      subst hx
      refine (Try.slices_Clone_string_zero a cap w).mono ?_
      rintro e w' ⟨v', rfl, ho, _, hB⟩
      obtain ⟨ao, c, rfl, hc'⟩ := fin v' w' ho
      exact ⟨ao, c, rfl, hc', hB⟩
    · obtain ⟨b, off, e, _⟩ := hc 0 h0
      injection e with e
      subst e
      refine (Try.slices_Clone_string b off xs.length cap xs w (Nat.le_refl _) (by omega) (fun j hj => by
        obtain ⟨b', off', e', h'⟩ := hc j hj
        injection e' with e'
        injection e' with e1 e2
        subst e1 e2
        exact h')).mono ?_
      rintro e w' ⟨v', rfl, ho, _, hB⟩
      rw [List.take_of_length_le (Nat.le_refl _)] at ho
      obtain ⟨ao, c, rfl, hc'⟩ := fin v' w' ho
      exact ⟨ao, c, rfl, hc', hB⟩

theorem tot_step (xs : List ByteArray) (k : Nat) (h : k < xs.length) : tot (xs.take (k + 1)) = tot (xs.take k) + (xs.getD k ByteArray.empty).size := by
  rw [take_snoc' xs k ByteArray.empty h, tot_append]
  simp [tot]

set_option maxRecDepth 100000 in
set_option maxHeartbeats 2000000 in
theorem short_any (xs : List ByteArray) (ao : Option Addr) (cap : Nat) (w : World) (hc : Cells w ao xs.length (strAt xs)) (hn : xs.length + tot xs ≤ 1000000000) :
    Calls Try.prog 19 #[.slice ao xs.length cap] w fun e w' => e = .returned (.bool (decide (xs.length + tot xs ≤ 2000))) ∧ w' = w := by
  have Hc := Lib.hid hc; clear hc
  have Ht := Lib.hid (tot_take xs)
  go_enter Try.func19, Try.ntmps19
  go_wp2_with fail
  go_loop [3, 4] (fun n i => ∃ k m : Nat, i = .int .i64 k ∧ k ≤ xs.length ∧ n = .int .i64 m ∧ m = xs.length + tot (xs.take k)) (fun _ i => xs.length - (intOf i).toNat)
  case atStart => exact ⟨0, xs.length, rfl, by omega, rfl, by simp [tot]⟩
  case round =>
    obtain ⟨k, m, rfl, hk, rfl, hm⟩ := hrel
    have Hm := Lib.hid hm
    have hmb := Ht.out k
    rw [show tot (xs.take k) = m - xs.length by omega] at hmb
    have hml : xs.length ≤ m := by omega
    clear hm
    by_cases hlt : k < xs.length
    · obtain ⟨b, off, hao, hcell⟩ := Hc.out k hlt
      subst hao
      have hcell' : w.cell? ⟨b, off + k, none⟩ = some (.string (xs.getD k ByteArray.empty)) := hcell
      have Hs := Lib.hid (tot_step xs k hlt)
      have hb2 := Ht.out (k + 1)
      rw [Hs.out, show tot (xs.take k) = m - xs.length by have := Hm.out; omega] at hb2
      generalize xs.getD k ByteArray.empty = x at hcell' Hs hb2
      clear hcell
      go_wp2_with fail
      go_round
      case rel => exact ⟨k + 1, m + x.size, by go_num, by omega, by go_num, by rw [Hs.out, ← Nat.add_assoc, ← Hm.out]⟩
      case measure => simp [intOf]; omega
    · have hk' : k = xs.length := by omega
      have Hd : Hid (decide ((m : Int) ≤ 2000) = decide (xs.length + tot xs ≤ 2000)) := Lib.hid (by
        have := Hm.out
        rw [hk', List.take_of_length_le (Nat.le_refl _)] at this
        rw [← this]
        congr 1
        exact propext (by omega))
      clear hk'
      go_wp2_with fail
      go_ret
      exact ⟨retB Hd.out, rfl⟩

end Go.Proofs.Ytapembonmcolhaa
