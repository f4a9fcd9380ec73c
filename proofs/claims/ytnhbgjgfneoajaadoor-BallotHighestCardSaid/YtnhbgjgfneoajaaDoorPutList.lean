/-
  Codes of lists of strings and of integers: the program's PutList and PutInts, and the reference's.
-/
import Derived.Test.YtnhbgjgfneoajaaDoorStr
set_option linter.unusedVariables false
namespace Go.Proofs.YtnhbgjgfneoajaaDoor
open Go.RowKit

/-- the cells of a slice: element i lies behind its head -/
def Cells (w : World) (ao : Option Addr) (n : Nat) (f : Nat → Value) : Prop :=
  ∀ i, i < n → ∃ b off, ao = some ⟨b, off, none⟩ ∧ w.cell? ⟨b, off + i, none⟩ = some (f i)

theorem cell_lt {w : World} {a : Addr} {v : Value} (h : w.cell? a = some v) : a.block < w.heap.size := by
  rcases Nat.lt_or_ge a.block w.heap.size with h' | h'
  · exact h'
  · simp [World.cell?, Array.getElem?_eq_none h'] at h

theorem Cells.keep {w w' : World} {ao : Option Addr} {n : Nat} {f : Nat → Value} (h : Cells w ao n f) (hB : Below w.heap.size w w') : Cells w' ao n f := by
  intro i hi
  obtain ⟨b, off, e, hc⟩ := h i hi
  exact ⟨b, off, e, (hB.cell (cell_lt hc)).trans hc⟩

/-- the element i of a slice of strings -/
def strAt (xs : List ByteArray) (i : Nat) : Value := .string (xs.getD i ByteArray.empty)
def intAt (xs : List Int) (i : Nat) : Value := .int .i64 (xs.getD i 0)

/-- the bytes of some strings -/
def tot (xs : List ByteArray) : Nat := (xs.map (·.size)).sum

theorem tot_append (xs ys : List ByteArray) : tot (xs ++ ys) = tot xs + tot ys := by simp [tot]
theorem tot_take (xs : List ByteArray) (k : Nat) : tot (xs.take k) ≤ tot xs := by
  have h := tot_append (xs.take k) (xs.drop k)
  rw [List.take_append_drop] at h
  omega

theorem tot_mem {xs : List ByteArray} {x : ByteArray} (h : x ∈ xs) : x.size ≤ tot xs := by
  induction xs with
  | nil => cases h
  | cons y ys ih =>
    simp only [tot, List.map_cons, List.sum_cons]
    rcases List.mem_cons.1 h with rfl | h
    · omega
    · have := ih h; simp only [tot] at this; omega

/-- what has been written behind k elements -/
def preS (xs : List ByteArray) (k : Nat) : List UInt8 := V.put xs.length ++ (xs.take k).flatMap (fun s => V.putStr (L s))
def preI (xs : List Int) (k : Nat) : List UInt8 := V.put xs.length ++ (xs.take k).flatMap V.putInt

theorem preS_zero (xs : List ByteArray) : preS xs 0 = V.put xs.length := by simp [preS]
theorem preI_zero (xs : List Int) : preI xs 0 = V.put xs.length := by simp [preI]
theorem take_snoc' {α : Type} (xs : List α) (k : Nat) (d : α) (h : k < xs.length) : xs.take (k + 1) = xs.take k ++ [xs.getD k d] := by
  rw [List.take_succ_eq_append_getElem h, List.getD_eq_getElem?_getD, List.getElem?_eq_getElem h]; rfl
theorem preS_succ (xs : List ByteArray) (k : Nat) (h : k < xs.length) : preS xs (k + 1) = preS xs k ++ V.putStr (L (xs.getD k ByteArray.empty)) := by
  simp [preS, take_snoc' xs k ByteArray.empty h]
theorem preI_succ (xs : List Int) (k : Nat) (h : k < xs.length) : preI xs (k + 1) = preI xs k ++ V.putInt (xs.getD k 0) := by
  simp [preI, take_snoc' xs k 0 h]
theorem preS_all (xs : List ByteArray) : preS xs xs.length = V.putList (xs.map L) := by
  simp [preS, V.putList, List.flatMap_map]
theorem preI_all (xs : List Int) : preI xs xs.length = V.putInts xs := by simp [preI, V.putInts]

theorem putStr_length (s : ByteArray) : (V.putStr (L s)).length ≤ 10 + s.size := by
  have := V.put_length (L s).length
  simp only [V.putStr, List.length_append, L_length] at *
  omega
theorem flat_length (xs : List ByteArray) : (xs.flatMap (fun s => V.putStr (L s))).length ≤ 10 * xs.length + tot xs := by
  induction xs with
  | nil => simp
  | cons x xs ih =>
    have := putStr_length x
    simp only [List.flatMap_cons, List.length_append, List.length_cons, tot, List.map_cons, List.sum_cons] at *
    omega
theorem preS_length (xs : List ByteArray) (k : Nat) : (preS xs k).length ≤ 10 + 10 * xs.length + tot xs := by
  have h1 := V.put_length xs.length
  have h2 := flat_length (xs.take k)
  have h3 := tot_take xs k
  have h4 : (xs.take k).length ≤ xs.length := by rw [List.length_take]; omega
  simp only [preS, List.length_append]
  omega
theorem flatI_length (xs : List Int) : (xs.flatMap V.putInt).length ≤ 10 * xs.length := by
  induction xs with
  | nil => simp
  | cons x xs ih =>
    have := V.put_length (V.zig x)
    simp only [List.flatMap_cons, List.length_append, List.length_cons, V.putInt] at *
    omega
theorem preI_length (xs : List Int) (k : Nat) : (preI xs k).length ≤ 10 + 10 * xs.length := by
  have h1 := V.put_length xs.length
  have h2 := flatI_length (xs.take k)
  have h4 : (xs.take k).length ≤ xs.length := by rw [List.length_take]; omega
  simp only [preI, List.length_append]
  omega

theorem strCells_L (s : ByteArray) : Lib.strCells s = Lib.byteCells (L s) := rfl

set_option maxRecDepth 100000 in
set_option maxHeartbeats 2000000 in
theorem putList_any (xs : List ByteArray) (ao : Option Addr) (cap : Nat) (w : World) (hc : Cells w ao xs.length (strAt xs)) (hn : xs.length ≤ 1000000000) (ht : tot xs ≤ 1000000000) :
    Calls Tryd.prog 35 #[.slice ao xs.length cap] w fun e w' => e = .returned (.string (S (V.putList (xs.map L)))) ∧ Below w.heap.size w w' := by
  have Hc := Lib.hid hc; clear hc
  go_enter Tryd.func35, Tryd.ntmps35
  go_wp2_with (go_at_call 41; refine (put_any w.heap.size w.heap.size [] xs.length _ (by omega) (Lib.fresh_isBuilder 68 5 w) (by simp) (by simp)).mono ?_)
  rintro e w1 ⟨rfl, hI, hB⟩
  have hB0 := ((Below.refl _ w).alloc (Nat.le_refl _) (.cells #[.pointer none, .slice none 0 0] 68)).trans hB
  clear hB
  rw [List.nil_append, ← preS_zero] at hI
  go_wp2_with fail
  go_loopw [5, 12] (fun s i wr => ∃ k : Nat, i = .int .i64 k ∧ k ≤ xs.length ∧ Lib.IsBuilder 68 5 w.heap.size w.heap.size (Lib.byteCells (preS xs k)) wr ∧ Below w.heap.size w wr) (fun _ i _ => xs.length - (intOf i).toNat)
  case atStart => exact ⟨0, rfl, by omega, hI, hB0⟩
  case round =>
    rename_i wr
    obtain ⟨k, rfl, hk, hI, hB⟩ := hrel
    have hsz := hB.size
    have hpl := preS_length xs k
    by_cases hlt : k < xs.length
    · obtain ⟨b, off, hao, hcell⟩ := (Hc.out.keep hB) k hlt
      subst hao
      have hcell' : wr.cell? ⟨b, off + k, none⟩ = some (.string (xs.getD k ByteArray.empty)) := hcell
      have Hx : Hid ((xs.getD k ByteArray.empty).size ≤ tot xs) := Lib.hid (tot_mem (by rw [List.getD_eq_getElem?_getD, List.getElem?_eq_getElem hlt]; exact List.getElem_mem hlt))
      have Hs := Lib.hid (preS_succ xs k hlt)
      generalize xs.getD k ByteArray.empty = x at hcell' Hx Hs
      have hx := Hx.out
      clear hcell
      go_wp2_with (go_at_call 41; refine (put_any w.heap.size w.heap.size _ x.size _ (by omega) hI (by rw [Lib.byteCells_length]; omega) hsz).mono ?_)
      rintro e w2 ⟨rfl, hI2, hB2⟩
      have hB3 := hB.trans hB2
      have hsz2 := hB3.size
      have hpx := V.put_length x.size
      go_wp2_with (go_at_call 42; refine (writeString w.heap.size w.heap.size _ x _ hI2 (by rw [List.length_append, Lib.byteCells_length, Lib.byteCells_length]; omega) hsz2).mono ?_)
      rintro e w3 ⟨rfl, hI3, hB4⟩
      clear hpx hcell'
      go_wp2_with fail
      go_roundw
      case rel =>
        refine ⟨k + 1, by go_num, by omega, ?_, hB3.trans hB4⟩
        rw [Hs.out, Lib.byteCells_append]
        rw [strCells_L, List.append_assoc, ← Lib.byteCells_append] at hI3
        have e : V.putStr (L x) = V.put x.size ++ L x := by rw [V.putStr, L_length]
        rw [e]
        exact hI3
      case measure => simp [intOf]; omega
    · have hk' : k = xs.length := by omega
      have Hk := Lib.hid (show preS xs k = V.putList (xs.map L) by rw [hk', preS_all])
      clear hk'
      go_wp2_with (go_at_call 43; refine (builderString w.heap.size w.heap.size (preS xs k) _ hI hsz).mono ?_)
      rintro e w2 ⟨rfl, hB2⟩
      go_wp2
      go_ret
      exact ⟨retS (by rw [Hk.out]), hB.trans hB2⟩


/-- the numbers fit an int -/
def Fits (xs : List Int) : Prop := ∀ x ∈ xs, -9223372036854775808 ≤ x ∧ x ≤ 9223372036854775807

theorem Fits.at {xs : List Int} (h : Fits xs) (k : Nat) (hk : k < xs.length) : -9223372036854775808 ≤ xs.getD k 0 ∧ xs.getD k 0 ≤ 9223372036854775807 := by
  refine h _ ?_
  rw [List.getD_eq_getElem?_getD, List.getElem?_eq_getElem hk]; exact List.getElem_mem hk

theorem zig_bits (x : Int) (h1 : -9223372036854775808 ≤ x) (h2 : x ≤ 9223372036854775807) :
    bits BinOp.xor IntKind.u64 (IntKind.u64.wrap (IntKind.u64.wrap x * 2)) (IntKind.u64.wrap (x / 9223372036854775808)) = (V.zig x : Int) := by
  unfold V.zig
  by_cases h : 0 ≤ x
  · have e1 : IntKind.u64.wrap (IntKind.u64.wrap x * 2) = (((2 * x).toNat : Nat) : Int) := by rw [IntKind.wrap_u64, IntKind.wrap_u64]; omega
    have e2 : IntKind.u64.wrap (x / 9223372036854775808) = ((0 : Nat) : Int) := by rw [IntKind.wrap_u64]; omega
    rw [if_pos h, e1, e2, B.xor_u64_0 _ (by omega)]
  · have e1 : IntKind.u64.wrap (IntKind.u64.wrap x * 2) = (((2 * x + 18446744073709551616).toNat : Nat) : Int) := by rw [IntKind.wrap_u64, IntKind.wrap_u64]; omega
    have e2 : IntKind.u64.wrap (x / 9223372036854775808) = ((18446744073709551615 : Nat) : Int) := by rw [IntKind.wrap_u64]; omega
    rw [if_neg h, e1, e2, B.xor_u64_ones _ (by omega)]
    omega

set_option maxRecDepth 100000 in
set_option maxHeartbeats 2000000 in
theorem putInts_any (xs : List Int) (ao : Option Addr) (cap : Nat) (w : World) (hc : Cells w ao xs.length (intAt xs)) (hn : xs.length ≤ 1000000000) (hf : Fits xs) :
    Calls Tryd.prog 40 #[.slice ao xs.length cap] w fun e w' => e = .returned (.string (S (V.putInts xs))) ∧ Below w.heap.size w w' := by
  have Hc := Lib.hid hc; clear hc
  have Hf := Lib.hid hf; clear hf
  go_enter Tryd.func40, Tryd.ntmps40
  go_wp2_with (go_at_call 41; refine (put_any w.heap.size w.heap.size [] xs.length _ (by omega) (Lib.fresh_isBuilder 68 5 w) (by simp) (by simp)).mono ?_)
  rintro e w1 ⟨rfl, hI, hB⟩
  have hB0 := ((Below.refl _ w).alloc (Nat.le_refl _) (.cells #[.pointer none, .slice none 0 0] 68)).trans hB
  clear hB
  rw [List.nil_append, ← preI_zero] at hI
  go_wp2_with fail
  go_loopw [5, 12] (fun s i wr => ∃ k : Nat, i = .int .i64 k ∧ k ≤ xs.length ∧ Lib.IsBuilder 68 5 w.heap.size w.heap.size (Lib.byteCells (preI xs k)) wr ∧ Below w.heap.size w wr) (fun _ i _ => xs.length - (intOf i).toNat)
  case atStart => exact ⟨0, rfl, by omega, hI, hB0⟩
  case round =>
    rename_i wr
    obtain ⟨k, rfl, hk, hI, hB⟩ := hrel
    have hsz := hB.size
    have hpl := preI_length xs k
    by_cases hlt : k < xs.length
    · obtain ⟨b, off, hao, hcell⟩ := (Hc.out.keep hB) k hlt
      subst hao
      have hcell' : wr.cell? ⟨b, off + k, none⟩ = some (.int .i64 (xs.getD k 0)) := hcell
      have hx := Hf.out.at k hlt
      have Hs := Lib.hid (preI_succ xs k hlt)
      generalize xs.getD k 0 = x at hcell' hx Hs
      obtain ⟨hx1, hx2⟩ := hx
      clear hcell
      have hz := V.zig_lt x hx1 hx2
      have Hz := Lib.hid (zig_bits x hx1 hx2)
      go_wp2_with (go_at_call 41; rw [Hz.out]; refine (put_any w.heap.size w.heap.size _ (V.zig x) _ hz hI (by rw [Lib.byteCells_length]; omega) hsz).mono ?_)
      rintro e w2 ⟨rfl, hI2, hB2⟩
      clear hcell'
      go_wp2_with fail
      go_roundw
      case rel =>
        refine ⟨k + 1, by go_num, by omega, ?_, hB.trans hB2⟩
        rw [Hs.out, Lib.byteCells_append]
        exact hI2
      case measure => simp [intOf]; omega
    · have hk' : k = xs.length := by omega
      have Hk := Lib.hid (show preI xs k = V.putInts xs by rw [hk', preI_all])
      clear hk'
      go_wp2_with (go_at_call 43; refine (builderString w.heap.size w.heap.size (preI xs k) _ hI hsz).mono ?_)
      rintro e w2 ⟨rfl, hB2⟩
      go_wp2
      go_ret
      exact ⟨retS (by rw [Hk.out]), hB.trans hB2⟩


end Go.Proofs.YtnhbgjgfneoajaaDoor
