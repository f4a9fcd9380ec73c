/-
  wire.put writes the varint of any number behind what a builder holds; wire.Put returns it.
-/
import Derived.Test.YtnhbgjgfneoajaaDoorBuild
import Derived.Test.YtnhbgjgfneoajaaDoorGet
set_option linter.unusedVariables false
namespace Go.Proofs.YtnhbgjgfneoajaaDoor
open Go.RowKit

/-- What a loop of put carries: some groups are written, the rest is still to come. -/
def PRel (B b : Nat) (bs : List Value) (n m : Nat) (w wr : World) : Prop :=
  m < 18446744073709551616 ∧ ∃ pre : List UInt8, Lib.IsBuilder 68 5 B b (bs ++ Lib.byteCells pre) wr ∧ Below B w wr ∧ pre ++ V.put m = V.put n

theorem or128 (m : Nat) (h : m < 18446744073709551616) : bits BinOp.or IntKind.u8 ((m : Int) % 256) 128 = ((UInt8.ofNat (m % 128 + 128)).toNat : Int) := by
  rw [V.ofNat_toNat _ (by omega)]
  have h2 : ∀ c : Fin 256, bits BinOp.or IntKind.u8 (c.val : Int) 128 = ((c.val % 128 + 128 : Nat) : Int) := by decide +kernel
  have := h2 ⟨m % 256, by omega⟩
  rw [show (m : Int) % 256 = ((m % 256 : Nat) : Int) from by omega, this]
  congr 1
  simp only
  omega

set_option maxRecDepth 100000 in
set_option maxHeartbeats 1000000 in
theorem put_any (B b : Nat) (bs : List Value) (n : Nat) (w : World) (hn : n < 18446744073709551616) (h : Lib.IsBuilder 68 5 B b bs w) (hlen : bs.length + 10 ≤ 140737488355328) (hBw : B ≤ w.heap.size) :
    Calls Tryd.prog 41 #[.pointer (some ⟨b, 0, none⟩), .int .u64 n] w fun e w' => e = .returned (.tuple #[]) ∧ Lib.IsBuilder 68 5 B b (bs ++ Lib.byteCells (V.put n)) w' ∧ Below B w w' := by
  go_enter Tryd.func41, Tryd.ntmps41
  go_wp2
  go_loopw [1] (fun v wr => ∃ m : Nat, v = .int .u64 m ∧ PRel B b bs n m w wr) (fun v _ => (intOf v).toNat)
  case atStart => exact ⟨n, rfl, hn, [], by simpa [Lib.byteCells] using h, Below.refl _ _, rfl⟩
  case round =>
    obtain ⟨m, rfl, hm, pre, hI, hB, hpre⟩ := hrel
    have Hpre := Lib.hid hpre; clear hpre
    have hsz := hB.size
    have hl1 : pre.length + (V.put m).length ≤ 10 := by
      rw [← List.length_append, Hpre.out]; exact V.put_length n
    have hl2 := V.put_pos m
    have hlp : pre.length + 1 ≤ 10 := by omega
    clear hl1 hl2
    by_cases hlt : 128 ≤ m
    · go_wp2_with (go_at_call 48; refine (writeByte B b (bs ++ Lib.byteCells pre) _ _ hI (by rw [List.length_append, Lib.byteCells_length]; omega) (by omega)).mono ?_)
      rintro e w1 ⟨rfl, hI1, hB1⟩
      go_wp2
      go_roundw
      case rel =>
        refine ⟨m / 128, by go_num, by omega, pre ++ [UInt8.ofNat (m % 128 + 128)], ?_, hB.trans hB1, ?_⟩
        · rw [or128 m hm, List.append_assoc] at hI1
          rw [Lib.byteCells_append]
          exact hI1
        · rw [← Hpre.out, V.put_big m hlt hm]; simp
      case measure => simp [intOf]; omega
    · go_wp2_with (go_at_call 48; refine (writeByte B b (bs ++ Lib.byteCells pre) _ _ hI (by rw [List.length_append, Lib.byteCells_length]; omega) (by omega)).mono ?_)
      rintro e w1 ⟨rfl, hI1, hB1⟩
      go_wp2
      go_end0
      refine ⟨rfl, ?_, hB.trans hB1⟩
      rw [← Hpre.out, V.put_small m (by omega), Lib.byteCells_append, ← List.append_assoc]
      have e : Lib.byteCells [UInt8.ofNat m] = [.int .u8 (m : Int)] := by
        simp only [Lib.byteCells, List.map_cons, List.map_nil, V.ofNat_toNat m (by omega)]
      rw [e]
      exact hI1

set_option maxRecDepth 100000 in
set_option maxHeartbeats 1000000 in
theorem Put_any (n : Nat) (w : World) (hn : n < 18446744073709551616) :
    Calls Tryd.prog 39 #[.int .u64 n] w fun e w' => e = .returned (.string ⟨(V.put n).toArray⟩) ∧ Below w.heap.size w w' := by
  go_enter Tryd.func39, Tryd.ntmps39
  go_wp2_with (go_at_call 41; refine (put_any w.heap.size w.heap.size [] n _ hn (Lib.fresh_isBuilder 68 5 w) (by simp) (by simp)).mono ?_)
  rintro e w1 ⟨rfl, hI, hB⟩
  have hB0 := ((Below.refl _ w).alloc (Nat.le_refl _) (.cells #[.pointer none, .slice none 0 0] 68)).trans hB
  have hsz := hB0.size
  rw [List.nil_append] at hI
  go_wp2_with (go_at_call 43; refine (builderString w.heap.size w.heap.size (V.put n) _ hI hsz).mono ?_)
  rintro e w2 ⟨rfl, hB2⟩
  go_wp2
  go_ret
  exact ⟨rfl, hB0.trans hB2⟩

end Go.Proofs.YtnhbgjgfneoajaaDoor
