/-
  A certificate copied by append, and the reference's comparison of two certificates.
-/
import Derived.Test.YtnhbgjgfneoajaaDoorStatIn
import Derived.Laws.Append
import Derived.Laws.AppendOwn
import Derived.BigQuiet
set_option linter.unusedVariables false
namespace Go.Proofs.YtnhbgjgfneoajaaDoor
open Go.RowKit

/-- a builtin append by its run -/
theorem wpList_app {P : Program} {w : World} {ops : Array Oper} {rest : List Oper} {o : Oper} {a : Act} {Q : Exit → Act → World → Prop} (hgd : o.guard = none) (s x : Operand) (t : TypeId)
    (ho : o.op = .call { callee := .builtin .append, args := #[s, x], argTypes := #[t, t] }) (sv xv : Value) (hs : a.eval s = sv) (hx : a.eval x = xv) (v' : Value) (w' : World)
    (hrun : (Builtin.append_ #[t, t] o.type #[sv, xv]).run P w = .ok v' w')
    (h : wpList P ops Q rest (a.put o.dst v') w') : wpList P ops Q (o :: rest) a w := by
  refine wpList_plain hgd fun K hK => ?_
  unfold Oper.wp
  simp [execOp, ho, resolve, invoke, builtin, hs, hx, hrun, Result.andThen]
  exact hK _ _ h

/-- two slices with the same rows of six cells -/
def SameCert (w : World) (c c' : Value) : Prop :=
  ∃ ao ao' n cap cap', c = .slice ao n cap ∧ c' = .slice ao' n cap' ∧ n ≤ 2199023255552 ∧
    ∀ i, i < n → ∃ b off b' off', ao = some ⟨b, off, none⟩ ∧ ao' = some ⟨b', off', none⟩ ∧ (b < w.heap.size ∧ b' < w.heap.size) ∧ ∃ a k v m d s, w.rangeAt b (off + i * 6) (sg a k v m d s) ∧ w.rangeAt b' (off' + i * 6) (sg a k v m d s)
theorem SameCert.keep {w w' : World} {c c' : Value} (h : SameCert w c c') (hB : Below w.heap.size w w') : SameCert w' c c' := by
  obtain ⟨ao, ao', n, cap, cap', h1, h2, hn, h3⟩ := h
  refine ⟨ao, ao', n, cap, cap', h1, h2, hn, fun i hi => ?_⟩
  obtain ⟨b, off, b', off', e1, e2, ⟨e3, e4⟩, a, k, v, m, d, s, r1, r2⟩ := h3 i hi
  exact ⟨b, off, b', off', e1, e2, ⟨Nat.lt_of_lt_of_le e3 hB.size, Nat.lt_of_lt_of_le e4 hB.size⟩, a, k, v, m, d, s, range_keep r1 hB e3, range_keep r2 hB e4⟩
theorem SameCert.nil (w : World) : SameCert w (.slice none 0 0) (.slice none 0 0) := ⟨none, none, 0, 0, 0, rfl, rfl, by omega, fun i hi => by omega⟩

theorem infoSigned : (Tryd.prog.info? 34).map (fun i => (i.size, i.bytes, i.zero.isSome)) = some (6, 64, true) := by kernel_rfl

set_option maxRecDepth 100000 in
/-- the copy -/
theorem copy_cert (w : World) (c : Value) (ty : TypeId) (h : CertOk w c) (p g : Nat) (hp : p < w.heap.size) (hg : g < w.heap.size) (hav : ∀ b off n cap, c = .slice (some ⟨b, off, none⟩) n cap → 0 < n → b ≠ p ∧ b ≠ g) :
    ∃ c' w', (Builtin.append_ #[32, 32] ty #[.slice none 0 0, c]).run Tryd.prog w = .ok c' w' ∧ Below w.heap.size w w' ∧ (∀ u : World, (∀ k, k ≠ p → k ≠ g → u.heap[k]? = w'.heap[k]?) → w'.heap.size ≤ u.heap.size → SameCert u c c') ∧ c'.oneCell' = true := by
  obtain ⟨ao, n, cap, rfl, hnil, hsz, hr⟩ := h
  obtain ⟨i0, hi, hi2⟩ := Option.map_eq_some_iff.1 infoSigned
  obtain ⟨hz1, hz2, hz3⟩ : i0.size = 6 ∧ i0.bytes = 64 ∧ i0.zero.isSome = true := by
    injection hi2 with h1 h2
    injection h2 with h2 h3
    exact ⟨h1, h2, h3⟩
  obtain ⟨z, hz⟩ := Option.isSome_iff_exists.1 hz3
  rcases Nat.eq_zero_or_pos n with hn | hn
  · subst hn
    refine ⟨.slice none 0 0, w, ?_, Below.refl _ _, fun _ _ _ => ⟨ao, none, 0, cap, 0, rfl, rfl, by omega, fun i hi => by omega⟩, rfl⟩
    have hu := Tryd.underlying32
    simp [Builtin.append_, run_underlying hu, sizeOf, typeInfo, zeroValue, hi, hz, Builtin.lenOf]
    cases ao with
    | none => rw [run_firstCells_none]; rfl
    | some a => rw [run_firstCells_some (P := Tryd.prog) w i0.size 0 a 0 cap [] (by simp) (fun j u hj => by simp at hj)]; rfl
  · obtain ⟨b, off, r0, hao, hb, hl0, _⟩ := hr 0 hn
    subst hao
    have hall : ∃ news : List Value, news.length = n * 6 ∧ ∀ i, i < n → ∃ a k v m d s, w.rangeAt b (off + i * 6) (sg a k v m d s) ∧ ∀ j, j < 6 → news[i * 6 + j]? = (sg a k v m d s)[j]? := by
      have each : ∀ i, i < n → ∃ a k v m d s, w.rangeAt b (off + i * 6) (sg a k v m d s) := fun i hi => by
        obtain ⟨b', off', r, e1, e2, e3, e4, a, k, v, m, d, s, e5⟩ := hr i hi
        injection e1 with e1
        injection e1 with q1 q2
        subst q1 q2 e5
        exact ⟨a, k, v, m, d, s, e4⟩
      clear hr hsz hn hnil hav
      induction n with
      | zero => exact ⟨[], rfl, fun i hi => by omega⟩
      | succ n ih =>
        obtain ⟨news, h1, h2⟩ := ih (fun i hi => each i (by omega))
        obtain ⟨a, k, v, m, d, s, h3⟩ := each n (by omega)
        refine ⟨news ++ sg a k v m d s, by rw [List.length_append, h1, Nat.succ_mul]; rfl, fun i hi => ?_⟩
        by_cases hin : i < n
        · obtain ⟨a', k', v', m', d', s', h4, h5⟩ := h2 i hin
          refine ⟨a', k', v', m', d', s', h4, fun j hj => ?_⟩
          rw [List.getElem?_append_left (by rw [h1]; omega)]
          exact h5 j hj
        · obtain rfl : i = n := by omega
          refine ⟨a, k, v, m, d, s, h3, fun j hj => ?_⟩
          rw [List.getElem?_append_right (by omega), h1, Nat.add_sub_cancel_left]
    obtain ⟨news, hnl, hnews⟩ := hall
    have hget : ∀ j v, news[j]? = some v → w.cell? ((⟨b, off, none⟩ : Addr).add j) = some v := fun j v hj => by
      have hjl : j < n * 6 := by rw [← hnl]; exact (List.getElem?_eq_some_iff.1 hj).1
      obtain ⟨a, k, v', m, d, s, h4, h5⟩ := hnews (j / 6) (by omega)
      have h6 := h5 (j % 6) (Nat.mod_lt _ (by omega))
      rw [show j / 6 * 6 + j % 6 = j by omega, hj] at h6
      have h7 := h4 (j % 6) v h6.symm
      rw [Addr.add_mid, ← h7]
      congr 2
      omega
    have hrun := run_append_nil (P := Tryd.prog) (w := w) 32 ty 34 i0 z Tryd.underlying32 hi hz ⟨b, off, none⟩ n cap news (by rw [hnl, hz1]) hget hn (by omega) (by rw [hz2]; omega)
    have hbp := hav b off n cap rfl hn
    refine ⟨_, _, hrun, ?_, fun u0 hu0 hz0 => ⟨some ⟨b, off, none⟩, some ⟨w.heap.size, 0, none⟩, n, cap, _, rfl, rfl, by omega, fun i hi => ?_⟩, rfl⟩
    · exact ((Below.refl _ w).drew).alloc (Nat.le_refl _) _
    · obtain ⟨a, k, v, m, d, s, h4, h5⟩ := hnews i hi
      have hBa : Below w.heap.size w (w.drew.alloc (.cells (news.toArray ++ Builtin.zeroCells z.cells (grownCap w n 0 34 - n)) 34)) := ((Below.refl _ w).drew).alloc (Nat.le_refl _) _
      refine ⟨b, off, w.heap.size, 0, rfl, rfl, ⟨by have := hBa.size; omega, Nat.lt_of_lt_of_le (by show w.heap.size < (w.drew.heap.push _).size; rw [Array.size_push]; exact Nat.lt_succ_self _) hz0⟩, a, k, v, m, d, s, fun j u hu => ?_, fun j u hu => ?_⟩
      · have h8 := range_keep h4 hBa hb j u hu
        rw [← h8]
        exact World.cell?_of_block (hu0 b hbp.1 hbp.2)
      refine (World.cell?_of_block (hu0 w.heap.size (by omega) (by omega))).trans ?_
      have hj : j < 6 := (List.getElem?_eq_some_iff.1 hu).1
      have h6 := h5 j hj
      rw [hu] at h6
      have hlt : i * 6 + j < news.length := (List.getElem?_eq_some_iff.1 h6).1
      have hnew : (w.drew.alloc (.cells (news.toArray ++ Builtin.zeroCells z.cells (grownCap w n 0 34 - n)) 34)).heap[w.heap.size]? = some (.cells (news.toArray ++ Builtin.zeroCells z.cells (grownCap w n 0 34 - n)) 34 (0, 0)) := heap_alloc_new w.drew _
      rw [Lib.cell_of_heap hnew, Nat.zero_add, Array.getElem?_append_left (by simpa using hlt)]
      simpa using h6

set_option maxRecDepth 100000 in
set_option maxHeartbeats 1000000 in
theorem same_any (w : World) (c c' : Value) (h : SameCert w c c') :
    Calls Tryd.prog 21 #[c, c'] w fun e w' => e = .returned (.bool true) ∧ Below w.heap.size w w' := by
  obtain ⟨ao, ao', n, cap, cap', rfl, rfl, hnb, hr⟩ := h
  go_enter Tryd.func21, Tryd.ntmps21
  go_wp2_with fail
  go_loopw [5] (fun x wr => ∃ i : Nat, x = .int .i64 (i : Int) ∧ i ≤ n ∧ Below w.heap.size w wr) (fun x _ => n - (intOf x).toNat)
  case atStart => exact ⟨0, rfl, by omega, Below.refl _ _⟩
  case round =>
    obtain ⟨i, rfl, hi, hB⟩ := hrel
    by_cases hlt : i < n
    · obtain ⟨b, off, b', off', rfl, rfl, ⟨e3, e4⟩, a, k, v, m, d, s, r1, r2⟩ := hr i hlt
      have r1' := range_keep r1 hB e3
      have r2' := range_keep r2 hB e4
      have a0 : wr.cell? ⟨b, off + i * 6, none⟩ = some (.int .i64 a) := r1' 0 _ rfl
      have a1 : wr.cell? ⟨b, off + i * 6 + 1, none⟩ = some (.int .i64 k) := r1' 1 _ rfl
      have a2 : wr.cell? ⟨b, off + i * 6 + 2, none⟩ = some (.int .i64 v) := r1' 2 _ rfl
      have a3 : wr.cell? ⟨b, off + i * 6 + 3, none⟩ = some (.int .i64 m) := r1' 3 _ rfl
      have a4 : wr.cell? ⟨b, off + i * 6 + 4, none⟩ = some (.string d) := r1' 4 _ rfl
      have a5 : wr.cell? ⟨b, off + i * 6 + 5, none⟩ = some (.string s) := r1' 5 _ rfl
      have b0 : wr.cell? ⟨b', off' + i * 6, none⟩ = some (.int .i64 a) := r2' 0 _ rfl
      have b1 : wr.cell? ⟨b', off' + i * 6 + 1, none⟩ = some (.int .i64 k) := r2' 1 _ rfl
      have b2 : wr.cell? ⟨b', off' + i * 6 + 2, none⟩ = some (.int .i64 v) := r2' 2 _ rfl
      have b3 : wr.cell? ⟨b', off' + i * 6 + 3, none⟩ = some (.int .i64 m) := r2' 3 _ rfl
      have b4 : wr.cell? ⟨b', off' + i * 6 + 4, none⟩ = some (.string d) := r2' 4 _ rfl
      have b5 : wr.cell? ⟨b', off' + i * 6 + 5, none⟩ = some (.string s) := r2' 5 _ rfl
      clear hr r1 r2 r1' r2'
      go_upto_region 6 with fail
      go_quiet (fail)
      go_wp2_with fail
      go_roundw
      case rel => exact ⟨i + 1, by go_num, by omega, ⟨hB.os, hB.tape, hB.output, hB.size, hB.block⟩⟩
      case measure => simp [intOf]; omega
    · obtain rfl : i = n := by omega
      go_wp2_with fail
      go_ret
      exact ⟨rfl, hB⟩

end Go.Proofs.YtnhbgjgfneoajaaDoor
