/-
  The reference's readers: they hand back the value and what is left as a struct.
-/
import Derived.Test.YtapembonmcolhaaReader
import Derived.RegionTactic
import Derived.ChangeAlike
import Derived.Deep.RegionWith
import Derived.StillTailTactics
set_option linter.unusedVariables false
namespace Go.Proofs.Ytapembonmcolhaa
open Go.RowKit

/-- a Rest as a value -/
def restV (l : List UInt8) (e : Nat) : Value := .agg #[.string (S l), .int .i64 e]

theorem bcell {w w1 : World} (hb : Below w.heap.size w w1) : (∀ b o, b < w.heap.size → w1.cell? ⟨b, o, none⟩ = w.cell? ⟨b, o, none⟩) ∧ (∀ b o, b < w.heap.size → w1.frozen? ⟨b, o, none⟩ = w.frozen? ⟨b, o, none⟩) :=
  ⟨fun b o h => hb.cell (p := ⟨b, o, none⟩) h, fun b o h => hb.frozen (p := ⟨b, o, none⟩) h⟩

set_option maxRecDepth 100000 in
set_option maxHeartbeats 2000000 in
theorem refEnd_any (l : List UInt8) (e : Nat) (w : World) (he : e ≤ 9) :
    Calls Try.prog 36 #[restV l e] w fun x w' => x = .returned (.int .i64 (V.fin l e)) ∧ w' = w.alloc (.cells #[.string (S l), .int .i64 e] 47) := by
  unfold restV
  by_cases hz : e = 0
  · subst hz
    by_cases hl : l = []
    · subst hl
      go_enter Try.func36, Try.ntmps36
      go_wp2
      go_ret
      exact ⟨rfl, rfl⟩
    · have hl' : l.isEmpty = false := by cases l <;> simp_all
      have Hf := Lib.hid (show V.fin l 0 = 2 by unfold V.fin; rw [if_pos ⟨rfl, hl⟩])
      clear hl
      go_enter Try.func36, Try.ntmps36
      go_wp2
      go_ret
      exact ⟨retI (by rw [Hf.out]; rfl), rfl⟩
  · have hz' : ((e : Int) == 0) = false := by simp; omega
    have Hf := Lib.hid (show V.fin l e = e by unfold V.fin; rw [if_neg (fun h => hz h.1)])
    go_enter Try.func36, Try.ntmps36
    go_wp2
    go_ret
    exact ⟨retI (by rw [Hf.out]), rfl⟩

set_option maxRecDepth 100000 in
set_option maxHeartbeats 2000000 in
theorem refInt_any (l : List UInt8) (e : Nat) (w : World) (he : e ≤ 9) (hl : l.length ≤ 1000000000) :
    Calls Try.prog 29 #[restV l e] w fun x w' => x = .returned (.tuple #[.int .i64 (V.rd 0 V.getInt l e).1, restV (V.rd 0 V.getInt l e).2.1 (V.rd 0 V.getInt l e).2.2]) ∧ Below w.heap.size w w' := by
  by_cases hz : e = 0
  · subst hz
    have P := refGet_any (S l)
    obtain ⟨p, hp⟩ : ∃ p, V.get l = p := ⟨_, rfl⟩
    rw [L_S, hp] at P
    have hpb := V.get_bound l
    rw [hp] at hpb
    obtain ⟨n, q, f⟩ := p
    obtain ⟨hb1, hb2, hb3, hb4, hb5⟩ := hpb
    simp only at hb1 hb2 hb3 hb4 hb5
    have HP := Lib.hid P; clear P
    by_cases hf : f = 0
    · subst hf
      have hi : V.getInt l = (V.unzig n, q, 0) := by unfold V.getInt V.intOf; rw [hp]; simp
      rw [rd_ok _ _ l (V.unzig n) q hi]
      clear hp hi hb5
      have hq' : q ≤ (S l).size := by rw [S_size]; exact hb2
      unfold restV
      go_enter Try.func29, Try.ntmps29
      go_wp2_with (go_at_call 16; refine (HP.out _ (by rw [S_size]; unfold maxLen; omega)).mono ?_; rintro e w' ⟨rfl, rfl⟩)
      go_region_with (go_at_call 50; refine (refInteger_any n _ hb1).mono ?_; rintro e w' ⟨rfl, rfl⟩)
      all_goals go_wp2_with fail
      all_goals rw [S_from l q hb2]
      all_goals refine bodyPost_ret (v := .tuple #[.int .i64 (V.unzig n), .agg #[.string (S (l.drop q)), .int .i64 0]]) (by simp [results, Try.results29, go_sem]) rfl ⟨rfl, ?_⟩
      all_goals exact (((Below.refl _ w).alloc (Nat.le_refl _) _).alloc (by simp) _).drew
    · have hi : V.getInt l = (0, 0, f) := by unfold V.getInt V.intOf; rw [hp]; simp [hf]
      rw [rd_bad _ _ l 0 0 f hi hf]
      clear hp hi hb5
      have hf' : ((f : Int) != 0) = true := by simp; omega
      unfold restV
      go_enter Try.func29, Try.ntmps29
      go_wp2_with (go_at_call 16; refine (HP.out _ (by rw [S_size]; unfold maxLen; omega)).mono ?_; rintro e w' ⟨rfl, rfl⟩)
      go_region
      all_goals go_wp2_with fail
      all_goals refine bodyPost_ret (v := .tuple #[.int .i64 0, .agg #[.string (S l), .int .i64 f]]) (by simp [results, Try.results29, go_sem]) rfl ⟨rfl, ?_⟩
      all_goals exact (((Below.refl _ w).alloc (Nat.le_refl _) _).alloc (by simp) _).drew
  · rw [rd_err _ _ l e hz]
    have hz' : ((e : Int) != 0) = true := by simp; omega
    unfold restV
    go_enter Try.func29, Try.ntmps29
    go_wp2_with fail
    go_region
    all_goals go_wp2_with fail
    all_goals refine bodyPost_ret (v := .tuple #[.int .i64 0, .agg #[.string (S l), .int .i64 e]]) (by simp [results, Try.results29, go_sem]) rfl ⟨rfl, ?_⟩
    all_goals exact (((Below.refl _ w).alloc (Nat.le_refl _) _).alloc (by simp) _).drew

set_option maxRecDepth 100000 in
set_option maxHeartbeats 2000000 in
theorem refString_any (l : List UInt8) (e : Nat) (w : World) (he : e ≤ 9) (hl : l.length ≤ 1000000000) :
    Calls Try.prog 31 #[restV l e] w fun x w' => x = .returned (.tuple #[.string (S (V.rd [] V.getStr l e).1), restV (V.rd [] V.getStr l e).2.1 (V.rd [] V.getStr l e).2.2]) ∧ Below w.heap.size w w' := by
  by_cases hz : e = 0
  · subst hz
    have P := refGetString_any (S l)
    obtain ⟨p, hp⟩ : ∃ p, V.getStr l = p := ⟨_, rfl⟩
    rw [L_S, hp] at P
    have hpb := V.getStr_part l
    rw [hp] at hpb
    obtain ⟨n, q, f⟩ := p
    simp only at hpb
    have HP := Lib.hid P; clear P
    by_cases hf : f = 0
    · subst hf
      have hb2 := (hpb.2 rfl).2
      rw [rd_ok _ _ l n q hp]
      clear hp hpb
      have hq' : q ≤ (S l).size := by rw [S_size]; exact hb2
      unfold restV
      go_enter Try.func31, Try.ntmps31
      go_wp2_with (go_at_call 18; refine (HP.out _ (by rw [S_size]; omega)).mono ?_; rintro e w' ⟨rfl, rfl⟩)
      go_region
      all_goals go_wp2_with fail
      all_goals rw [S_from l q hb2]
      all_goals refine bodyPost_ret (v := .tuple #[.string (S n), .agg #[.string (S (l.drop q)), .int .i64 0]]) (by simp [results, Try.results31, go_sem]) rfl ⟨rfl, ?_⟩
      all_goals exact (((Below.refl _ w).alloc (Nat.le_refl _) _).alloc (by simp) _).drew
    · rw [rd_bad _ _ l n q f hp hf]
      clear hp hpb
      have hf' : ((f : Int) != 0) = true := by simp; omega
      unfold restV
      go_enter Try.func31, Try.ntmps31
      go_wp2_with (go_at_call 18; refine (HP.out _ (by rw [S_size]; omega)).mono ?_; rintro e w' ⟨rfl, rfl⟩)
      go_region
      all_goals go_wp2_with fail
      all_goals refine bodyPost_ret (v := .tuple #[.string ⟨#[]⟩, .agg #[.string (S l), .int .i64 f]]) (by simp [results, Try.results31, go_sem]) rfl ⟨rfl, ?_⟩
      all_goals exact (((Below.refl _ w).alloc (Nat.le_refl _) _).alloc (by simp) _).drew
  · rw [rd_err _ _ l e hz]
    have hz' : ((e : Int) != 0) = true := by simp; omega
    unfold restV
    go_enter Try.func31, Try.ntmps31
    go_wp2_with fail
    go_region
    all_goals go_wp2_with fail
    all_goals refine bodyPost_ret (v := .tuple #[.string ⟨#[]⟩, .agg #[.string (S l), .int .i64 e]]) (by simp [results, Try.results31, go_sem]) rfl ⟨rfl, ?_⟩
    all_goals exact (((Below.refl _ w).alloc (Nat.le_refl _) _).alloc (by simp) _).drew

theorem set_first {w : World} {b : Nat} {a c : Value} {T : TypeId} {fz : Nat × Nat} (h : w.heap[b]? = some (.cells #[a, c] T fz)) (x : Value) :
    (w.setCell ⟨b, 0, none⟩ x).cell? ⟨b, 0, none⟩ = some x := by
  simp [World.setCell, World.cell?, Array.getElem?_modify, h]
theorem set_second {w : World} {b : Nat} {a c : Value} {T : TypeId} {fz : Nat × Nat} (h : w.heap[b]? = some (.cells #[a, c] T fz)) (x y : Value) :
    ((w.setCell ⟨b, 0, none⟩ x).setCell ⟨b, 1, none⟩ y).cell? ⟨b, 1, none⟩ = some y := by
  simp [World.setCell, World.cell?, Array.getElem?_modify, h]

/-- two new blocks, and a world that has kept them -/
theorem two_new (w : World) (o1 o2 : Obj) {w1 : World} (hB : Below ((w.alloc o1).alloc o2).heap.size ((w.alloc o1).alloc o2) w1) :
    w1.heap[w.heap.size]? = some o1 ∧ w1.heap[w.heap.size + 1]? = some o2 ∧ w.heap.size < w1.heap.size ∧ w.heap.size + 1 < w1.heap.size := by
  have h1 : ((w.alloc o1).alloc o2).heap = (w.heap.push o1).push o2 := rfl
  have h2 : ((w.alloc o1).alloc o2).heap.size = w.heap.size + 2 := by rw [h1]; simp
  have hs := hB.size
  rw [h2] at hs
  refine ⟨?_, ?_, by omega, by omega⟩
  · rw [hB.block _ (by rw [h2]; omega), h1]
    rw [Array.getElem?_push, if_neg (by simp), Array.getElem?_push, if_pos rfl]
  · rw [hB.block _ (by rw [h2]; omega), h1]
    rw [Array.getElem?_push, if_pos (by simp)]

/-- what the reference's reading of a list leaves -/
def RefL (r : List (List UInt8) × List UInt8 × Nat) (w : World) (x : Ending) (w' : World) : Prop :=
  ∃ v, x = .returned (.tuple #[v, restV r.2.1 r.2.2]) ∧ OwnsS w.heap.size v r.1 w' ∧ Below w.heap.size w w'

theorem ownsS_mono {B B' : Nat} {v : Value} {xs : List (List UInt8)} {w : World} (h : OwnsS B v xs w) (hB : B' ≤ B) : OwnsS B' v xs w := by
  obtain ⟨h1, h2⟩ := h
  refine ⟨h1, ?_⟩
  rcases h2 with h2 | ⟨g, cap, cur, hv, hg, r⟩
  · exact Or.inl h2
  · exact Or.inr ⟨g, cap, cur, hv, Nat.le_trans hB hg, r⟩
theorem ownsS_drew {B : Nat} {v : Value} {xs : List (List UInt8)} {w : World} (h : OwnsS B v xs w) : OwnsS B v xs w.drew := World.ownsRow.drew h

set_option maxRecDepth 100000 in
set_option maxHeartbeats 2000000 in
theorem refList_any (l : List UInt8) (e : Nat) (w : World) (he : e ≤ 9) (hl : l.length ≤ 1000000000) :
    Calls Try.prog 33 #[restV l e] w (RefL (V.rd [] V.getStrs l e) w) := by
  by_cases hz : e = 0
  · subst hz
    have P := refGetList_any (S l)
    obtain ⟨p, hp⟩ : ∃ p, V.getStrs l = p := ⟨_, rfl⟩
    rw [L_S, hp] at P
    have hpb := getStrs_part l
    rw [hp] at hpb
    obtain ⟨n, q, f⟩ := p
    simp only at hpb
    have HP := Lib.hid P; clear P
    by_cases hf : f = 0
    · subst hf
      have hb2 := (hpb.2 rfl).2
      rw [rd_ok _ _ l n q hp]
      clear hp hpb
      have hq' : q ≤ (S l).size := by rw [S_size]; exact hb2
      unfold restV
      go_enter Try.func33, Try.ntmps33
      go_wp2_with fail
      refine (HP.out _ (by rw [S_size]; omega)).mono ?_
      rintro e w1 ⟨v, rfl, ho, hB⟩
      obtain ⟨hk0, hk1, hsz0, hsz1⟩ := two_new w _ _ hB
      have HK := Lib.hid hk1
      have g0 : w1.cell? ⟨w.heap.size, 0, none⟩ = some (.string (S l)) := by rw [Lib.cell_of_heap hk0]; rfl
      have g1 : w1.cell? ⟨w.heap.size, 1, none⟩ = some (.int .i64 0) := by rw [Lib.cell_of_heap hk0]; rfl
      have g2 : w1.frozen? ⟨w.heap.size + 1, 0, none⟩ = false := Lib.frozen_of_heap hk1 0
      have g3 : w1.frozen? ⟨w.heap.size + 1, 1, none⟩ = false := Lib.frozen_of_heap hk1 1
      have g4 : w1.cell? ⟨w.heap.size + 1, 0, none⟩ = some (.string ⟨#[]⟩) := by rw [Lib.cell_of_heap hk1]; rfl
      have g5 : w1.cell? ⟨w.heap.size + 1, 1, none⟩ = some (.int .i64 0) := by rw [Lib.cell_of_heap hk1]; rfl
      obtain ⟨ao, cp, hv⟩ := owns_slice ho
      rw [hv] at ho
      rw [hv]
      have Ho := Lib.hid ho
      have HB := Lib.hid ((((Below.refl _ w).alloc (Nat.le_refl _) _).alloc (by simp) _).trans (hB.mono (by simp; omega)))
      clear ho hv hB hk0 hk1
      go_wp2_with fail
      go_region
      all_goals go_wp2_with fail
      all_goals rw [S_from l q hb2]
      all_goals have hk2 := HK.out
      all_goals have c0 := set_first hk2 (.string (S (l.drop q)))
      all_goals have c1 := set_second hk2 (.string (S (l.drop q))) (.int .i64 0)
      all_goals refine bodyPost_ret (v := .tuple #[.slice ao n.length cp, .agg #[.string (S (l.drop q)), .int .i64 0]]) (by simp [results, Try.results33, go_sem, c0, c1]) rfl ⟨_, rfl, ?_, ?_⟩
      all_goals first | exact (((HB.out.setCell (p := ⟨w.heap.size + 1, 0, none⟩) (by simp) _).setCell (p := ⟨w.heap.size + 1, 1, none⟩) (by simp) _).drew) | exact ownsS_drew (ownsS_mono (ownsS_set (ownsS_set Ho.out (by simp) _ _) (by simp) _ _) (by simp; omega))
    · rw [rd_bad _ _ l n q f hp hf]
      clear hp hpb
      have hf' : ((f : Int) != 0) = true := by simp; omega
      unfold restV
      go_enter Try.func33, Try.ntmps33
      go_wp2_with fail
      refine (HP.out _ (by rw [S_size]; omega)).mono ?_
      rintro e w1 ⟨v, rfl, ho, hB⟩
      obtain ⟨hk0, hk1, hsz0, hsz1⟩ := two_new w _ _ hB
      have HK := Lib.hid hk1
      have g0 : w1.cell? ⟨w.heap.size, 0, none⟩ = some (.string (S l)) := by rw [Lib.cell_of_heap hk0]; rfl
      have g1 : w1.cell? ⟨w.heap.size, 1, none⟩ = some (.int .i64 0) := by rw [Lib.cell_of_heap hk0]; rfl
      have g2 : w1.frozen? ⟨w.heap.size + 1, 0, none⟩ = false := Lib.frozen_of_heap hk1 0
      have g3 : w1.frozen? ⟨w.heap.size + 1, 1, none⟩ = false := Lib.frozen_of_heap hk1 1
      have g4 : w1.cell? ⟨w.heap.size + 1, 0, none⟩ = some (.string ⟨#[]⟩) := by rw [Lib.cell_of_heap hk1]; rfl
      have g5 : w1.cell? ⟨w.heap.size + 1, 1, none⟩ = some (.int .i64 0) := by rw [Lib.cell_of_heap hk1]; rfl
      obtain ⟨ao, cp, hv⟩ := owns_slice ho
      rw [hv] at ho
      rw [hv]
      have Ho := Lib.hid ho
      have HB := Lib.hid ((((Below.refl _ w).alloc (Nat.le_refl _) _).alloc (by simp) _).trans (hB.mono (by simp; omega)))
      clear ho hv hB hk0 hk1
      go_wp2_with fail
      go_region
      all_goals go_wp2_with fail
      all_goals have hk2 := HK.out
      all_goals have c0 := set_first hk2 (.string (S (l)))
      all_goals have c1 := set_second hk2 (.string (S (l))) (.int .i64 f)
      all_goals refine bodyPost_ret (v := .tuple #[.slice none 0 0, .agg #[.string (S (l)), .int .i64 f]]) (by simp [results, Try.results33, go_sem, c0, c1]) rfl ⟨_, rfl, ?_, ?_⟩
      all_goals first | exact (((HB.out.setCell (p := ⟨w.heap.size + 1, 0, none⟩) (by simp) _).setCell (p := ⟨w.heap.size + 1, 1, none⟩) (by simp) _).drew) | exact ownsS_nil _ _
  · rw [rd_err _ _ l e hz]
    have hz' : ((e : Int) != 0) = true := by simp; omega
    unfold restV
    go_enter Try.func33, Try.ntmps33
    go_wp2_with fail
    go_region
    all_goals go_wp2_with fail
    all_goals refine bodyPost_ret (v := .tuple #[.slice none 0 0, .agg #[.string (S l), .int .i64 e]]) (by simp [results, Try.results33, go_sem]) rfl ⟨_, rfl, ownsS_nil _ _, ?_⟩
    all_goals exact (((Below.refl _ w).alloc (Nat.le_refl _) _).alloc (by simp) _).drew

end Go.Proofs.Ytapembonmcolhaa
