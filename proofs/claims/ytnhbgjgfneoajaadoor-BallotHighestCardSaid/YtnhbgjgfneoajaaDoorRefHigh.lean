/-
  The status with the greatest lock: the reference's Highest.
-/
import Derived.Test.YtnhbgjgfneoajaaDoorHigh
import Derived.BigQuiet
set_option linter.unusedVariables false
namespace Go.Proofs.YtnhbgjgfneoajaaDoor
open Go.RowKit

/-- what the reference's Highest returns -/
def RefPost : Option St → Ending → Prop
  | none, e => e = .returned (.tuple #[.agg St.zero.row.toArray, .int .i64 4])
  | some t, e => e = .returned (.tuple #[.agg t.row.toArray, .int .i64 0])
/-- the index of the best status so far -/
def BestAt (len wb : Int) (xs : List St) (i : Nat) (v : Int) : Prop :=
  (best len wb (xs.take i) = none ∧ v = -1) ∨ ∃ (j : Nat) (t : St), v = (j : Int) ∧ xs[j]? = some t ∧ best len wb (xs.take i) = some t

set_option maxRecDepth 100000 in
set_option maxHeartbeats 1500000 in
theorem refHighest_any (xs : List St) (ao : Option Addr) (cap : Nat) (len wb : Int) (w : World) (hx : Stats w ao xs) (hn : xs.length ≤ 20) (hw0 : 0 ≤ wb) (hw1 : wb ≤ 65535) :
    Calls Tryd.prog 12 #[.slice ao xs.length cap, .int .i64 len, .int .u16 wb] w fun e w' => RefPost (best len wb xs) e ∧ Below w.heap.size w w' := by
  go_enter Tryd.func12, Tryd.ntmps12
  go_upto_region 1 with fail
  generalize hw1 : w.alloc _ = w1
  have hA : Blk w.heap.size St.zero.row 36 w1 := by rw [← hw1]; exact Blk.new _ _ w
  have hB : Below w.heap.size w w1 := by rw [← hw1]; exact (Below.refl _ w).alloc (Nat.le_refl _) _
  clear hw1
  obtain ⟨g, hg⟩ : ∃ g, w.heap.size = g := ⟨_, rfl⟩
  rw [hg] at hA ⊢
  go_wp2_with fail
  go_loopw [8, 9, 10, 11] (fun v x _ _ wr => ∃ (i : Nat) (z : Int), x = .int .i64 (i : Int) ∧ i ≤ xs.length ∧ v = .int .i64 z ∧ BestAt len wb xs i z ∧ Blk g St.zero.row 36 wr ∧ Below w.heap.size w wr) (fun _ x _ _ _ => xs.length - (intOf x).toNat)
  case atStart => exact ⟨0, -1, rfl, by omega, rfl, Or.inl ⟨rfl, rfl⟩, hA, hB⟩
  case round =>
    clear hA hB
    obtain ⟨i, z, rfl, hi, rfl, hbest, hA, hB⟩ := hrel
    by_cases hlt : i < xs.length
    · obtain ⟨⟨b, off, rfl, hb, hr0⟩, hc⟩ := hx i _ (List.getElem?_eq_getElem hlt)
      have hr := range_keep hr0 hB hb
      have hs : best len wb (xs.take (i + 1)) = bestStep len wb (best len wb (xs.take i)) xs[i] := by rw [← best_snoc, List.take_append_getElem hlt]
      have hsi : xs[i]? = some xs[i] := List.getElem?_eq_getElem hlt
      generalize xs[i] = s at hr hs hc hsi
      have hone : s.c.oneCell' = true := by
        obtain ⟨_, _, _, h1, _⟩ := hc
        rw [h1]; rfl
      have HS : ∀ _ : Unit, best len wb (xs.take (i + 1)) = bestStep len wb (best len wb (xs.take i)) s := fun _ => hs
      have HX := Lib.hid hx
      have HB := Lib.hid hbest
      have HI : ∀ _ : Unit, xs[i]? = some s := fun _ => hsi
      have hz : -1 ≤ z ∧ z < 21 := by
        rcases hbest with ⟨_, h1⟩ | ⟨j, t, h1, h2, _⟩
        · omega
        · have := (List.getElem?_eq_some_iff.1 h2).1
          omega
      clear hs hr0 hx hc hbest hsi
      go_upto_region 6 with (first
        | refine wpList_load_mid rfl 36 (.tmp 20) rfl b (off + i * 12) rfl s.row _ hr Tryd.underlying36 rfl (by kernel_rfl) ?_
        | refine wpList_store_row rfl 36 (.tmp 10) (.tmp 21) rfl wr.heap.size s.row.toArray rfl rfl 36 _ (heap_alloc_new _ _) (by kernel_rfl) (by rfl) (row_ones s hone) ?_)
      generalize hwv : World.setRow _ _ _ = wv
      have hQ : Blk wr.heap.size s.row 36 wv := by rw [← hwv]; exact setRow_heap _ _ _ _ _ _ (heap_alloc_new _ _)
      have hBr : Below wr.heap.size wr wv := by rw [← hwv]; exact Dg.Below.setRow _ ((Below.refl _ wr).alloc (Nat.le_refl _) _) (Nat.le_refl _)
      have hAv : Blk g St.zero.row 36 wv := hA.keep hBr
      have hBv : Below w.heap.size w wv := hB.trans (hBr.mono hB.size)
      clear hwv hr hA hB hBr
      generalize wr.heap.size = q at hQ ⊢
      have c0 : wv.cell? ⟨q, 0, none⟩ = some (.int .i64 s.a) := hQ.cell 0
      have c2 : wv.cell? ⟨q, 2, none⟩ = some (.int .i64 s.n) := hQ.cell 2
      have c3 : wv.cell? ⟨q, 3, none⟩ = some (.int .i64 s.l) := hQ.cell 3
      by_cases h3 : s.a < 0
      · go_upto_region 7 with fail
        by_cases h1 : s.n = len
        · have h1b : (s.n != len) = false := by simp [h1]
          by_cases h2 : s.l < 1
          · have h2z : s.l ≤ 0 := by omega
            clear h1
            have hk : skip len wb s = true := by unfold skip; rw [h1b]; simp [h2]
            have HS1 : ∀ _ : Unit, best len wb (xs.take (i + 1)) = best len wb (xs.take i) := fun _ => by rw [HS ()]; unfold bestStep; rw [hk]; rfl
            clear hk
            go_wp2_with fail
            go_roundw
            case rel => exact ⟨i + 1, z, by go_num, by omega, rfl, by unfold BestAt; rw [HS1 ()]; exact HB.out, hAv, hBv⟩
            case measure => simp [intOf]; omega
          have h2z : 0 < s.l := by omega
          have hk : skip len wb s = false := by unfold skip; rw [h1b]; simp <;> omega
          clear h1
          rcases HB.out with ⟨hb0, hz0⟩ | ⟨j, t, hz0, hj, hb0⟩
          · have HS1 : ∀ _ : Unit, best len wb (xs.take (i + 1)) = some s := fun _ => by rw [HS (), hb0]; unfold bestStep; rw [hk]; rfl
            subst hz0
            clear hk hb0
            go_upto_region 8 with fail
            go_big_quiet (fail)
            go_wp2_with fail
            go_roundw
            case rel => exact ⟨i + 1, (i : Int), by go_num, by omega, rfl, Or.inr ⟨i, s, rfl, HI (), HS1 ()⟩, hAv, ⟨hBv.os, hBv.tape, hBv.output, hBv.size, hBv.block⟩⟩
            case measure => simp [intOf]; omega
          have HS1 : ∀ _ : Unit, best len wb (xs.take (i + 1)) = if over s t then some s else some t := fun _ => by rw [HS (), hb0]; unfold bestStep; rw [hk]; rfl
          subst hz0
          have hjl : j < xs.length := (List.getElem?_eq_some_iff.1 hj).1
          have HJ : ∀ _ : Unit, xs[j]? = some t := fun _ => hj
          obtain ⟨⟨b', off', e1, hb', hr'⟩, _⟩ := HX.out j t hj
          injection e1 with e1
          injection e1 with e1 e2
          subst e1 e2
          have hr2 := range_keep hr' hBv hb'
          have t0 : wv.cell? ⟨b, off + j * 12, none⟩ = some (.int .i64 t.a) := hr2 0 _ rfl
          have t3 : wv.cell? ⟨b, off + j * 12 + 3, none⟩ = some (.int .i64 t.l) := hr2 3 _ rfl
          have k0 : decide ((j : Int) < 0) = false := decide_eq_false (by omega)
          clear hk hb0 hj hr' hr2
          by_cases m1 : t.l < s.l
          · have ho : over s t = true := by unfold over; simp [m1]
            have k1 : decide (t.l < s.l) = true := decide_eq_true m1
            go_upto_region 8 with fail
            go_big_quiet (fail)
            go_wp2_with fail
            go_roundw
            case rel => exact ⟨i + 1, (i : Int), by go_num, by omega, rfl, Or.inr ⟨i, s, rfl, HI (), by rw [HS1 (), ho]; rfl⟩, hAv, ⟨hBv.os, hBv.tape, hBv.output, hBv.size, hBv.block⟩⟩
            case measure => simp [intOf]; omega
          have k1 : decide (t.l < s.l) = false := decide_eq_false m1
          by_cases m2 : s.l = t.l
          · by_cases m3 : s.a < t.a
            · have ho : over s t = true := by unfold over; simp [m2, m3]
              have k3 : decide (s.a < t.a) = true := decide_eq_true m3
              have m2' : (s.l == t.l) = true := by simp [m2]
              clear m2
              go_upto_region 8 with fail
              go_big_quiet (fail)
              go_wp2_with fail
              go_roundw
              case rel => exact ⟨i + 1, (i : Int), by go_num, by omega, rfl, Or.inr ⟨i, s, rfl, HI (), by rw [HS1 (), ho]; rfl⟩, hAv, ⟨hBv.os, hBv.tape, hBv.output, hBv.size, hBv.block⟩⟩
              case measure => simp [intOf]; omega
            · have ho : over s t = false := by unfold over; simp [m1, m3] <;> omega
              have k3 : decide (s.a < t.a) = false := decide_eq_false m3
              have m2' : (s.l == t.l) = true := by simp [m2]
              clear m2
              go_upto_region 8 with fail
              go_big_quiet (fail)
              go_wp2_with fail
              go_roundw
              case rel => exact ⟨i + 1, (j : Int), by go_num, by omega, rfl, Or.inr ⟨j, t, rfl, HJ (), by rw [HS1 (), ho]; rfl⟩, hAv, ⟨hBv.os, hBv.tape, hBv.output, hBv.size, hBv.block⟩⟩
              case measure => simp [intOf]; omega
          · have ho : over s t = false := by unfold over; simp [m1, m2]
            have m2' : (s.l == t.l) = false := by simp [m2]
            clear m2
            go_upto_region 8 with fail
            go_big_quiet (fail)
            go_wp2_with fail
            go_roundw
            case rel => exact ⟨i + 1, (j : Int), by go_num, by omega, rfl, Or.inr ⟨j, t, rfl, HJ (), by rw [HS1 (), ho]; rfl⟩, hAv, ⟨hBv.os, hBv.tape, hBv.output, hBv.size, hBv.block⟩⟩
            case measure => simp [intOf]; omega
        · have h1b : (s.n != len) = true := by simp [h1]
          clear h1
          have hk : skip len wb s = true := by unfold skip; rw [h1b]; rfl
          have HS1 : ∀ _ : Unit, best len wb (xs.take (i + 1)) = best len wb (xs.take i) := fun _ => by rw [HS ()]; unfold bestStep; rw [hk]; rfl
          clear hk
          go_wp2_with fail
          go_roundw
          case rel => exact ⟨i + 1, z, by go_num, by omega, rfl, by unfold BestAt; rw [HS1 ()]; exact HB.out, hAv, hBv⟩
          case measure => simp [intOf]; omega
      by_cases h4 : s.a < 16
      · have h3p : 0 ≤ s.a := by omega
        by_cases h5 : (bits .and .u16 (wb / 2 ^ s.a.toNat) 1 == 1) = true
        · clear h3
          go_upto_region 7 with fail
          by_cases h1 : s.n = len
          · have h1b : (s.n != len) = false := by simp [h1]
            by_cases h2 : s.l < 1
            · have h2z : s.l ≤ 0 := by omega
              clear h1
              have hk : skip len wb s = true := by unfold skip; rw [h1b]; simp [h2]
              have HS1 : ∀ _ : Unit, best len wb (xs.take (i + 1)) = best len wb (xs.take i) := fun _ => by rw [HS ()]; unfold bestStep; rw [hk]; rfl
              clear hk
              go_wp2_with fail
              go_roundw
              case rel => exact ⟨i + 1, z, by go_num, by omega, rfl, by unfold BestAt; rw [HS1 ()]; exact HB.out, hAv, hBv⟩
              case measure => simp [intOf]; omega
            have h2z : 0 < s.l := by omega
            clear h1
            have hk : skip len wb s = true := by unfold skip; rw [h5]; simp <;> omega
            have HS1 : ∀ _ : Unit, best len wb (xs.take (i + 1)) = best len wb (xs.take i) := fun _ => by rw [HS ()]; unfold bestStep; rw [hk]; rfl
            clear hk
            go_wp2_with fail
            go_roundw
            case rel => exact ⟨i + 1, z, by go_num, by omega, rfl, by unfold BestAt; rw [HS1 ()]; exact HB.out, hAv, hBv⟩
            case measure => simp [intOf]; omega
          · have h1b : (s.n != len) = true := by simp [h1]
            clear h1
            have hk : skip len wb s = true := by unfold skip; rw [h1b]; rfl
            have HS1 : ∀ _ : Unit, best len wb (xs.take (i + 1)) = best len wb (xs.take i) := fun _ => by rw [HS ()]; unfold bestStep; rw [hk]; rfl
            clear hk
            go_wp2_with fail
            go_roundw
            case rel => exact ⟨i + 1, z, by go_num, by omega, rfl, by unfold BestAt; rw [HS1 ()]; exact HB.out, hAv, hBv⟩
            case measure => simp [intOf]; omega
        · have h5 : (bits .and .u16 (wb / 2 ^ s.a.toNat) 1 == 1) = false := by simpa using h5
          clear h3
          go_upto_region 7 with fail
          by_cases h1 : s.n = len
          · have h1b : (s.n != len) = false := by simp [h1]
            by_cases h2 : s.l < 1
            · have h2z : s.l ≤ 0 := by omega
              clear h1
              have hk : skip len wb s = true := by unfold skip; rw [h1b]; simp [h2]
              have HS1 : ∀ _ : Unit, best len wb (xs.take (i + 1)) = best len wb (xs.take i) := fun _ => by rw [HS ()]; unfold bestStep; rw [hk]; rfl
              clear hk
              go_wp2_with fail
              go_roundw
              case rel => exact ⟨i + 1, z, by go_num, by omega, rfl, by unfold BestAt; rw [HS1 ()]; exact HB.out, hAv, hBv⟩
              case measure => simp [intOf]; omega
            have h2z : 0 < s.l := by omega
            have hk : skip len wb s = false := by unfold skip; rw [h1b, h5]; simp <;> omega
            clear h1
            rcases HB.out with ⟨hb0, hz0⟩ | ⟨j, t, hz0, hj, hb0⟩
            · have HS1 : ∀ _ : Unit, best len wb (xs.take (i + 1)) = some s := fun _ => by rw [HS (), hb0]; unfold bestStep; rw [hk]; rfl
              subst hz0
              clear hk hb0
              go_upto_region 8 with fail
              go_big_quiet (fail)
              go_wp2_with fail
              go_roundw
              case rel => exact ⟨i + 1, (i : Int), by go_num, by omega, rfl, Or.inr ⟨i, s, rfl, HI (), HS1 ()⟩, hAv, ⟨hBv.os, hBv.tape, hBv.output, hBv.size, hBv.block⟩⟩
              case measure => simp [intOf]; omega
            have HS1 : ∀ _ : Unit, best len wb (xs.take (i + 1)) = if over s t then some s else some t := fun _ => by rw [HS (), hb0]; unfold bestStep; rw [hk]; rfl
            subst hz0
            have hjl : j < xs.length := (List.getElem?_eq_some_iff.1 hj).1
            have HJ : ∀ _ : Unit, xs[j]? = some t := fun _ => hj
            obtain ⟨⟨b', off', e1, hb', hr'⟩, _⟩ := HX.out j t hj
            injection e1 with e1
            injection e1 with e1 e2
            subst e1 e2
            have hr2 := range_keep hr' hBv hb'
            have t0 : wv.cell? ⟨b, off + j * 12, none⟩ = some (.int .i64 t.a) := hr2 0 _ rfl
            have t3 : wv.cell? ⟨b, off + j * 12 + 3, none⟩ = some (.int .i64 t.l) := hr2 3 _ rfl
            have k0 : decide ((j : Int) < 0) = false := decide_eq_false (by omega)
            clear hk hb0 hj hr' hr2
            by_cases m1 : t.l < s.l
            · have ho : over s t = true := by unfold over; simp [m1]
              have k1 : decide (t.l < s.l) = true := decide_eq_true m1
              go_upto_region 8 with fail
              go_big_quiet (fail)
              go_wp2_with fail
              go_roundw
              case rel => exact ⟨i + 1, (i : Int), by go_num, by omega, rfl, Or.inr ⟨i, s, rfl, HI (), by rw [HS1 (), ho]; rfl⟩, hAv, ⟨hBv.os, hBv.tape, hBv.output, hBv.size, hBv.block⟩⟩
              case measure => simp [intOf]; omega
            have k1 : decide (t.l < s.l) = false := decide_eq_false m1
            by_cases m2 : s.l = t.l
            · by_cases m3 : s.a < t.a
              · have ho : over s t = true := by unfold over; simp [m2, m3]
                have k3 : decide (s.a < t.a) = true := decide_eq_true m3
                have m2' : (s.l == t.l) = true := by simp [m2]
                clear m2
                go_upto_region 8 with fail
                go_big_quiet (fail)
                go_wp2_with fail
                go_roundw
                case rel => exact ⟨i + 1, (i : Int), by go_num, by omega, rfl, Or.inr ⟨i, s, rfl, HI (), by rw [HS1 (), ho]; rfl⟩, hAv, ⟨hBv.os, hBv.tape, hBv.output, hBv.size, hBv.block⟩⟩
                case measure => simp [intOf]; omega
              · have ho : over s t = false := by unfold over; simp [m1, m3] <;> omega
                have k3 : decide (s.a < t.a) = false := decide_eq_false m3
                have m2' : (s.l == t.l) = true := by simp [m2]
                clear m2
                go_upto_region 8 with fail
                go_big_quiet (fail)
                go_wp2_with fail
                go_roundw
                case rel => exact ⟨i + 1, (j : Int), by go_num, by omega, rfl, Or.inr ⟨j, t, rfl, HJ (), by rw [HS1 (), ho]; rfl⟩, hAv, ⟨hBv.os, hBv.tape, hBv.output, hBv.size, hBv.block⟩⟩
                case measure => simp [intOf]; omega
            · have ho : over s t = false := by unfold over; simp [m1, m2]
              have m2' : (s.l == t.l) = false := by simp [m2]
              clear m2
              go_upto_region 8 with fail
              go_big_quiet (fail)
              go_wp2_with fail
              go_roundw
              case rel => exact ⟨i + 1, (j : Int), by go_num, by omega, rfl, Or.inr ⟨j, t, rfl, HJ (), by rw [HS1 (), ho]; rfl⟩, hAv, ⟨hBv.os, hBv.tape, hBv.output, hBv.size, hBv.block⟩⟩
              case measure => simp [intOf]; omega
          · have h1b : (s.n != len) = true := by simp [h1]
            clear h1
            have hk : skip len wb s = true := by unfold skip; rw [h1b]; rfl
            have HS1 : ∀ _ : Unit, best len wb (xs.take (i + 1)) = best len wb (xs.take i) := fun _ => by rw [HS ()]; unfold bestStep; rw [hk]; rfl
            clear hk
            go_wp2_with fail
            go_roundw
            case rel => exact ⟨i + 1, z, by go_num, by omega, rfl, by unfold BestAt; rw [HS1 ()]; exact HB.out, hAv, hBv⟩
            case measure => simp [intOf]; omega
      · go_upto_region 7 with fail
        by_cases h1 : s.n = len
        · have h1b : (s.n != len) = false := by simp [h1]
          by_cases h2 : s.l < 1
          · have h2z : s.l ≤ 0 := by omega
            clear h1
            have hk : skip len wb s = true := by unfold skip; rw [h1b]; simp [h2]
            have HS1 : ∀ _ : Unit, best len wb (xs.take (i + 1)) = best len wb (xs.take i) := fun _ => by rw [HS ()]; unfold bestStep; rw [hk]; rfl
            clear hk
            go_wp2_with fail
            go_roundw
            case rel => exact ⟨i + 1, z, by go_num, by omega, rfl, by unfold BestAt; rw [HS1 ()]; exact HB.out, hAv, hBv⟩
            case measure => simp [intOf]; omega
          have h2z : 0 < s.l := by omega
          have hk : skip len wb s = false := by unfold skip; rw [h1b]; simp <;> omega
          clear h1
          rcases HB.out with ⟨hb0, hz0⟩ | ⟨j, t, hz0, hj, hb0⟩
          · have HS1 : ∀ _ : Unit, best len wb (xs.take (i + 1)) = some s := fun _ => by rw [HS (), hb0]; unfold bestStep; rw [hk]; rfl
            subst hz0
            clear hk hb0
            go_upto_region 8 with fail
            go_big_quiet (fail)
            go_wp2_with fail
            go_roundw
            case rel => exact ⟨i + 1, (i : Int), by go_num, by omega, rfl, Or.inr ⟨i, s, rfl, HI (), HS1 ()⟩, hAv, ⟨hBv.os, hBv.tape, hBv.output, hBv.size, hBv.block⟩⟩
            case measure => simp [intOf]; omega
          have HS1 : ∀ _ : Unit, best len wb (xs.take (i + 1)) = if over s t then some s else some t := fun _ => by rw [HS (), hb0]; unfold bestStep; rw [hk]; rfl
          subst hz0
          have hjl : j < xs.length := (List.getElem?_eq_some_iff.1 hj).1
          have HJ : ∀ _ : Unit, xs[j]? = some t := fun _ => hj
          obtain ⟨⟨b', off', e1, hb', hr'⟩, _⟩ := HX.out j t hj
          injection e1 with e1
          injection e1 with e1 e2
          subst e1 e2
          have hr2 := range_keep hr' hBv hb'
          have t0 : wv.cell? ⟨b, off + j * 12, none⟩ = some (.int .i64 t.a) := hr2 0 _ rfl
          have t3 : wv.cell? ⟨b, off + j * 12 + 3, none⟩ = some (.int .i64 t.l) := hr2 3 _ rfl
          have k0 : decide ((j : Int) < 0) = false := decide_eq_false (by omega)
          clear hk hb0 hj hr' hr2
          by_cases m1 : t.l < s.l
          · have ho : over s t = true := by unfold over; simp [m1]
            have k1 : decide (t.l < s.l) = true := decide_eq_true m1
            go_upto_region 8 with fail
            go_big_quiet (fail)
            go_wp2_with fail
            go_roundw
            case rel => exact ⟨i + 1, (i : Int), by go_num, by omega, rfl, Or.inr ⟨i, s, rfl, HI (), by rw [HS1 (), ho]; rfl⟩, hAv, ⟨hBv.os, hBv.tape, hBv.output, hBv.size, hBv.block⟩⟩
            case measure => simp [intOf]; omega
          have k1 : decide (t.l < s.l) = false := decide_eq_false m1
          by_cases m2 : s.l = t.l
          · by_cases m3 : s.a < t.a
            · have ho : over s t = true := by unfold over; simp [m2, m3]
              have k3 : decide (s.a < t.a) = true := decide_eq_true m3
              have m2' : (s.l == t.l) = true := by simp [m2]
              clear m2
              go_upto_region 8 with fail
              go_big_quiet (fail)
              go_wp2_with fail
              go_roundw
              case rel => exact ⟨i + 1, (i : Int), by go_num, by omega, rfl, Or.inr ⟨i, s, rfl, HI (), by rw [HS1 (), ho]; rfl⟩, hAv, ⟨hBv.os, hBv.tape, hBv.output, hBv.size, hBv.block⟩⟩
              case measure => simp [intOf]; omega
            · have ho : over s t = false := by unfold over; simp [m1, m3] <;> omega
              have k3 : decide (s.a < t.a) = false := decide_eq_false m3
              have m2' : (s.l == t.l) = true := by simp [m2]
              clear m2
              go_upto_region 8 with fail
              go_big_quiet (fail)
              go_wp2_with fail
              go_roundw
              case rel => exact ⟨i + 1, (j : Int), by go_num, by omega, rfl, Or.inr ⟨j, t, rfl, HJ (), by rw [HS1 (), ho]; rfl⟩, hAv, ⟨hBv.os, hBv.tape, hBv.output, hBv.size, hBv.block⟩⟩
              case measure => simp [intOf]; omega
          · have ho : over s t = false := by unfold over; simp [m1, m2]
            have m2' : (s.l == t.l) = false := by simp [m2]
            clear m2
            go_upto_region 8 with fail
            go_big_quiet (fail)
            go_wp2_with fail
            go_roundw
            case rel => exact ⟨i + 1, (j : Int), by go_num, by omega, rfl, Or.inr ⟨j, t, rfl, HJ (), by rw [HS1 (), ho]; rfl⟩, hAv, ⟨hBv.os, hBv.tape, hBv.output, hBv.size, hBv.block⟩⟩
            case measure => simp [intOf]; omega
        · have h1b : (s.n != len) = true := by simp [h1]
          clear h1
          have hk : skip len wb s = true := by unfold skip; rw [h1b]; rfl
          have HS1 : ∀ _ : Unit, best len wb (xs.take (i + 1)) = best len wb (xs.take i) := fun _ => by rw [HS ()]; unfold bestStep; rw [hk]; rfl
          clear hk
          go_wp2_with fail
          go_roundw
          case rel => exact ⟨i + 1, z, by go_num, by omega, rfl, by unfold BestAt; rw [HS1 ()]; exact HB.out, hAv, hBv⟩
          case measure => simp [intOf]; omega
    · obtain rfl : i = xs.length := by omega
      unfold BestAt at hbest
      rw [List.take_length] at hbest
      rcases hbest with ⟨hb, rfl⟩ | ⟨j, t, rfl, hj, hb⟩
      · clear hx
        go_wp2_with (refine wpList_store_row rfl 36 (.tmp 6) (.tmp 85) rfl g St.zero.row.toArray rfl rfl 36 _ hA (by kernel_rfl) (by kernel_rfl) (by kernel_rfl) ?_)
        exact bodyPost_ret (results_row_tmp rfl _ _ g 36 St.zero.row.toArray (0, 0) _ rfl (setRow_heap _ _ _ _ _ _ hA) Tryd.underlying36 rfl (by kernel_rfl)) rfl ⟨by rw [hb]; rfl, Dg.Below.setRow _ hB (by omega)⟩
      · have hjl : j < xs.length := (List.getElem?_eq_some_iff.1 hj).1
        obtain ⟨⟨b, off, rfl, hb', hr'⟩, hc⟩ := hx j t hj
        have hr2 := range_keep hr' hB hb'
        have hone : t.c.oneCell' = true := by
          obtain ⟨_, _, _, h1, _⟩ := hc
          rw [h1]; rfl
        clear hx hr' hc hj
        go_upto_region 12 with fail
        go_wp2_with (first
          | refine wpList_load_mid rfl 36 (.tmp 88) rfl b (off + j * 12) rfl t.row _ hr2 Tryd.underlying36 rfl (by kernel_rfl) ?_
          | refine wpList_store_row rfl 36 (.tmp 6) (.tmp 89) rfl g t.row.toArray rfl rfl 36 _ hA (by kernel_rfl) (by rfl) (row_ones t hone) ?_)
        exact bodyPost_ret (results_row_tmp rfl _ _ g 36 t.row.toArray (0, 0) _ rfl (setRow_heap _ _ _ _ _ _ hA) Tryd.underlying36 rfl (by kernel_rfl)) rfl ⟨by rw [hb]; rfl, Dg.Below.setRow _ hB (by omega)⟩

end Go.Proofs.YtnhbgjgfneoajaaDoor
