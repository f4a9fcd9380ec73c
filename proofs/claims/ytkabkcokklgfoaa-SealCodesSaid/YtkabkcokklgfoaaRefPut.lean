/-
  The reference's Put returns the same varint.
-/
import Derived.Test.YtkabkcokklgfoaaRefGet
set_option linter.unusedVariables false
namespace Go.Proofs.Ytkabkcokklgfoaa
open Go.RowKit

/-- What the reference's loop carries: some groups are in its own slice, the rest is still to come. -/
def QRel (B n m : Nat) (v : Value) (w wr : World) : Prop :=
  m < 18446744073709551616 ∧ ∃ pre : List UInt8, wr.ownsRow B 5 1 v pre.length (Lib.byteCells pre) ∧ Below B w wr ∧ pre ++ V.put m = V.put n

/-- one cell that lies in a new block of its own -/
theorem one_at (w : World) (x : Value) (t : TypeId) : ∀ j u, [x][j]? = some u → (w.alloc (.cells #[x] t)).cell? ((⟨w.heap.size, 0, none⟩ : Addr).add j) = some u := by
  intro j u hj
  match j, hj with
  | 0, hj => simp at hj; subst hj; simp [Addr.add]

theorem one_cell (x : Value) (h : x.oneCell' = true) : ∀ u ∈ [x], u.oneCell' = true := by
  intro u hu; simp at hu; subst hu; exact h

theorem step128 (m : Nat) (h : m < 18446744073709551616) : 128 + (m : Int) % 128 = ((UInt8.ofNat (m % 128 + 128)).toNat : Int) := by
  rw [V.ofNat_toNat _ (by omega)]; omega

theorem byteCells_one (b : UInt8) : Lib.byteCells [b] = [.int .u8 (b.toNat : Int)] := rfl

/-- the bytes that an owned slice holds, as 'string(..)' asks for them -/
theorem owned_bytes {w : World} {B g cap : Nat} {l : List UInt8} (h : w.ownsRow B 5 1 (.slice (some ⟨g, 0, none⟩) l.length cap) l.length (Lib.byteCells l)) :
    ∀ j (hj : j < l.length), w.cell? ((⟨g, 0, none⟩ : Addr).add j) = some (.int .u8 (l[j].toNat : Int)) := by
  intro j hj
  refine h.cells rfl j _ ?_
  simp [Lib.byteCells, hj]

set_option maxRecDepth 100000 in
set_option maxHeartbeats 1000000 in
theorem refPut_any (n : Nat) (w : World) (hn : n < 18446744073709551616) :
    Calls Try.prog 35 #[.int .u64 n] w fun e w' => e = .returned (.string ⟨(V.put n).toArray⟩) ∧ Below w.heap.size w w' := by
  obtain ⟨i0, hi, hz0, hz1, hz2⟩ := info_parts infoByte
  go_enter Try.func35, Try.ntmps35
  go_wp2
  go_loopw [0, 3] (fun a v wr => ∃ m : Nat, a = .int .u64 m ∧ QRel w.heap.size n m v w wr) (fun a _ _ => (intOf a).toNat)
  case atStart => exact ⟨n, rfl, hn, [], World.ownsRow_nil _ _ _ _, Below.refl _ _, rfl⟩
  case round =>
    rename_i v wr
    obtain ⟨m, rfl, hm, pre, hown, hB, hpre⟩ := hrel
    have hl1 : pre.length + (V.put m).length ≤ 10 := by
      rw [← List.length_append, hpre]; exact V.put_length n
    have hl2 := V.put_pos m
    have hlp : pre.length + 1 ≤ 10 := by omega
    have Hpre := Lib.hid hpre; clear hpre
    clear hl1 hl2
    have hsz := hB.size
    by_cases hlt : 128 ≤ m
    · go_wp2_with (at_builtin; refine wpList_append_own _ rfl _ _ 65 rfl w.heap.size 5 i0 (.int .u8 0) 1 1 Try.underlying65 hi hz0 hz1 hz2 rfl (by decide) _ _ _ rfl (hown.alloc _) ⟨wr.heap.size, 0, none⟩ 1 1 [.int .u8 (128 + (m : Int) % 128)] rfl rfl (one_at _ _ _) (one_cell _ rfl) (by unfold maxLen; omega) (by omega) (by simp; omega) ?_)
      intro v' w1 hown' hgrow hne
      go_wp2
      go_roundw
      case rel =>
        refine ⟨m / 128, by go_num, by omega, pre ++ [UInt8.ofNat (m % 128 + 128)], ?_, ?_, ?_⟩
        · rw [step128 m hm] at hown'
          rw [Lib.byteCells_append, byteCells_one, List.length_append]
          exact hown'
        · exact (hB.alloc hsz _).grown hgrow (by simp; omega) (fun k hk => (hown.lt k hk).1)
        · rw [← Hpre.out, V.put_big m hlt hm]; simp
      case measure => simp [intOf]; omega
    · go_wp2_with (at_builtin; refine wpList_append_own _ rfl _ _ 65 rfl w.heap.size 5 i0 (.int .u8 0) 1 1 Try.underlying65 hi hz0 hz1 hz2 rfl (by decide) _ _ _ rfl (hown.alloc _) ⟨wr.heap.size, 0, none⟩ 1 1 [.int .u8 (m : Int)] rfl rfl (one_at _ _ _) (one_cell _ rfl) (by unfold maxLen; omega) (by omega) (by simp; omega) ?_)
      intro v' w1 hown' hgrow hne
      have hbel := (hB.alloc hsz (.cells #[.int .u8 (m : Int)] 5)).grown hgrow (by simp; omega) (fun k hk => (hown.lt k hk).1)
      obtain ⟨g, cap, rfl⟩ : ∃ g cap, v' = .slice (some ⟨g, 0, none⟩) (pre.length + 1) cap := by
        rcases hown'.2 with ⟨_, h0⟩ | ⟨g, cap, cur, hv, _⟩
        · omega
        · exact ⟨g, cap, hv⟩
      have hb1 : (m : Int) = ((UInt8.ofNat m).toNat : Int) := by rw [V.ofNat_toNat m (by omega)]
      rw [hb1, ← byteCells_one, ← Lib.byteCells_append] at hown'
      have hlen : pre.length + 1 = (pre ++ [UInt8.ofNat m]).length := by simp
      rw [hlen] at hown'
      have hconv := run_convert_bytes_back (P := Try.prog) w1 65 9 5 ⟨g, 0, none⟩ cap (pre ++ [UInt8.ofNat m]) Try.underlying65 Try.underlying5 Try.underlying9 (owned_bytes hown')
      rw [← hlen] at hconv
      have hput : V.put n = pre ++ [UInt8.ofNat m] := by rw [← Hpre.out, V.put_small m (by omega)]
      rw [← hput] at hconv
      have Hput := Lib.hid hput; clear hput
      clear hown' hlen hb1
      go_wp2
      go_ret
      exact ⟨rfl, hbel⟩

end Go.Proofs.Ytkabkcokklgfoaa
