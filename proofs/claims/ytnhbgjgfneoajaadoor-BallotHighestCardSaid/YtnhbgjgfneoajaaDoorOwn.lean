/-
  A slice of bytes in memory of its own, also one that a text was turned into: one byte more.
-/
import Derived.Test.YtnhbgjgfneoajaaDoorBlk
import Derived.ArgAppend
import Derived.Lib.ConvBytes
set_option linter.unusedVariables false
namespace Go.Proofs.YtnhbgjgfneoajaaDoor.Dg
open Go.RowKit

/-- bytes, as cells -/
def bs (l : List UInt8) : List Value := l.map fun b => .int .u8 (b.toNat : Int)
theorem bs_length (l : List UInt8) : (bs l).length = l.length := by simp [bs]

/-- v is a slice that holds the bytes l, in a block from B on -/
def Own (B : Nat) (v : Value) (l : List UInt8) (w : World) : Prop :=
  ∃ g cap cs fz, v = .slice (some ⟨g, 0, none⟩) l.length cap ∧ B ≤ g ∧ w.heap[g]? = some (.cells cs 5 fz) ∧ (∀ j, j < cap → w.frozen? ⟨g, j, none⟩ = false) ∧
    l.length ≤ cap ∧ cap ≤ maxLen ∧ cs.size = cap ∧ cs.toList.take l.length = bs l

theorem infoByte : (Tryd.prog.info? 5).map (fun i => (i.zero, i.size, i.bytes)) = some (some (.int .u8 0), 1, 1) := by kernel_rfl

theorem Own.keep {B : Nat} {v : Value} {l : List UInt8} {w w' : World} (h : Own B v l w) (hB : Below w.heap.size w w') : Own B v l w' := by
  obtain ⟨g, cap, cs, fz, hv, hg, hb, hf, r⟩ := h
  have hlt := (Array.getElem?_eq_some_iff.1 hb).1
  exact ⟨g, cap, cs, fz, hv, hg, (hB.block g hlt).trans hb, fun j hj => (hB.frozen hlt).trans (hf j hj), r⟩

theorem Own.alloc {B : Nat} {v : Value} {l : List UInt8} {w : World} (h : Own B v l w) (o : Obj) : Own B v l (w.alloc o) := h.keep ((Below.refl _ w).alloc (Nat.le_refl _) o)

theorem Own.cell {B : Nat} {l : List UInt8} {w : World} {g n cap : Nat} (h : Own B (.slice (some ⟨g, 0, none⟩) n cap) l w) (j : Nat) (c : Value) (hj : (bs l)[j]? = some c) : w.cell? ⟨g, j, none⟩ = some c := by
  obtain ⟨g', cap', cs, fz, hv, hg, hb, hf, h1, h2, h3, h4⟩ := h
  injection hv with e1 e2 e3
  injection e1 with e1
  injection e1 with e1
  subst e1
  rw [Lib.cell_of_heap hb]
  have hl : j < (bs l).length := (List.getElem?_eq_some_iff.1 hj).1
  rw [← h4, List.getElem?_take] at hj
  rw [bs_length] at hl
  rw [if_pos hl] at hj
  simpa using hj

/-- the row that a text's conversion lays -/
theorem own_of_text (B : Nat) (w : World) (s : ByteArray) (hB : B ≤ w.heap.size) (hs : grownCap w s.size 0 5 ≤ maxLen ∧ s.size ≤ grownCap w s.size 0 5) :
    Own B (.slice (some ⟨w.heap.size, 0, none⟩) s.size (grownCap w s.size 0 5)) s.data.toList (Lib.bytesWorld w 5 s) := by
  have hb := Lib.bytesWorld_at_new w 5 s
  have hsz : (Lib.bytesCells w 5 s).size = grownCap w s.size 0 5 := by
    have : s.data.size = s.size := rfl
    simp [Lib.bytesCells, this]; omega
  have hl : s.data.toList.length = s.size := Array.length_toList
  refine ⟨w.heap.size, _, _, _, by rw [hl], hB, hb, ?_, by rw [hl]; exact hs.2, hs.1, hsz, ?_⟩
  · intro j hj
    simp [World.frozen?, hb, hsz]
    omega
  · have e : (s.data.map fun b => Value.int .u8 b.toNat).toList = bs s.data.toList := by simp [bs]
    rw [Lib.bytesCells, Array.toList_append, e, List.take_append_of_le_length (by rw [bs_length]; omega), List.take_of_length_le (by rw [bs_length]; omega)]

theorem own_append {ops : Array Oper} {rest : List Oper} {o : Oper} {a : Act} {w : World} {Q : Exit → Act → World → Prop} (hgd : o.guard = none) (s x : Operand)
    (hop : o.op = Op.call { callee := Callee.builtin Builtin.append, args := #[s, x], argTypes := #[66, 66] }) (B : Nat) (v : Value) (hve : a.eval s = v) (l : List UInt8) (c : UInt8) (h : Own B v l w) (hBw : B ≤ w.heap.size)
    (y : Addr) (hx : a.eval x = .slice (some y) 1 1) (hy : w.cell? y = some (.int .u8 (c.toNat : Int))) (hl : l.length + 1 ≤ 1000000000)
    (K : ∀ v' w', Own B v' (l ++ [c]) w' → Below B w w' → wpList Tryd.prog ops Q rest (a.put o.dst v') w') : wpList Tryd.prog ops Q (o :: rest) a w := by
  subst hve
  obtain ⟨i0, hi, hz0, hz1, hz2⟩ := info_parts infoByte
  have h' := h
  obtain ⟨g, cap, cs, fz, hv, hg, hb, hf, h1, h2, h3, h4⟩ := h
  have hy0 : ∀ j u, [Value.int .u8 (c.toNat : Int)][j]? = some u → w.cell? (y.add j) = some u := by
    intro j u hj
    match j, hj with
    | 0, hj =>
      simp only [List.getElem?_cons_zero, Option.some.injEq] at hj
      subst hj
      simpa [Addr.add] using hy
  refine wpList_append_arg w hgd s x 66 hop 5 i0 (.int .u8 0) 1 1 Tryd.underlying66 hi hz0 hz1 hz2 rfl (by decide) g 0 l.length cap (bs l) hv (by rw [bs_length]; omega) ?_ y 1 1 [.int .u8 (c.toNat : Int)] hx rfl hy0 ?_ ?_ (by unfold maxLen; omega) (by omega) ?_ ?_
  · intro j u hj
    rw [Nat.zero_add]
    rw [hv] at h'
    exact h'.cell j u hj
  · intro u hu; simp at hu; subst hu; rfl
  · intro hroom j hj
    have hj0 : j = 0 := by simpa using hj
    subst hj0
    rw [Lib.cell_of_heap hb]
    refine ⟨?_, hf _ (by omega)⟩
    simp
    omega
  · intro hroom
    have e : w.setCells g (0 + l.length * 1) [Value.int .u8 (c.toNat : Int)] = w.setRow g (cs.setIfInBounds l.length (.int .u8 (c.toNat : Int))) := by
      rw [← setCell_eq_setRow w g l.length cs 5 fz _ hb]
      simp [World.setCells]
    rw [e]
    refine K _ _ ⟨g, cap, _, fz, by simp, hg, setRow_heap w g cs _ _ fz hb, ?_, by simpa using hroom, h2, by simp [h3], ?_⟩ ⟨rfl, rfl, rfl, by simp, fun k hk => setRow_other _ _ _ _ (by omega)⟩
    · intro j hj
      have := hf j hj
      simp only [World.frozen?, hb, setRow_heap w g cs _ _ fz hb] at this ⊢
      exact this
    · have h6 : cs.toList.length = cs.size := Array.length_toList
      have h5 : l.length < cs.toList.length := by omega
      have h7 : (l ++ [c]).length = l.length + 1 := by simp
      rw [h7, Array.toList_setIfInBounds, List.set_eq_take_append_cons_drop, if_pos h5, h4]
      have h8 : (bs l).length = l.length := bs_length l
      rw [← h8, List.take_length_add_append]
      simp [bs]
  · intro hgrow v' w' ho hgr
    refine K v' w' ?_ ((Below.refl B w).grown hgr hBw (fun k hk => by cases hk))
    obtain ⟨e1, e2⟩ := ho
    rcases e2 with ⟨_, e2⟩ | ⟨g2, cap2, cur, hv2, hg2, hb2, q1, q2, q3, q4⟩
    · omega
    · refine ⟨g2, cap2, cur, (0, 0), by rw [hv2]; simp, by omega, hb2, fun j hj => by simp [World.frozen?, hb2], by simpa using q1, q2, by omega, ?_⟩
      rw [Nat.mul_one] at q4
      rw [List.length_append]
      simpa [bs] using q4

end Go.Proofs.YtnhbgjgfneoajaaDoor.Dg
