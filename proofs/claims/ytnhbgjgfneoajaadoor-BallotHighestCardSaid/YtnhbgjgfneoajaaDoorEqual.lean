/-
  The reference's comparison of two statuses; the greatest length.
-/
import Derived.Test.YtnhbgjgfneoajaaDoorHigh
import Derived.BigQuiet
set_option linter.unusedVariables false
namespace Go.Proofs.YtnhbgjgfneoajaaDoor
open Go.RowKit

theorem SameCert.symm {w : World} {c c' : Value} (h : SameCert w c c') : SameCert w c' c := by
  obtain ⟨ao, ao', n, cap, cap', h1, h2, hn, h3⟩ := h
  refine ⟨ao', ao, n, cap', cap, h2, h1, hn, fun i hi => ?_⟩
  obtain ⟨b, off, b', off', e1, e2, ⟨e3, e4⟩, a, k, v, m, d, s, r1, r2⟩ := h3 i hi
  exact ⟨b', off', b, off, e2, e1, ⟨e4, e3⟩, a, k, v, m, d, s, r2, r1⟩
theorem new_two (w : World) (A B : List Value) (T : TypeId) :
    Blk w.heap.size A T ((w.alloc (.cells A.toArray T)).alloc (.cells B.toArray T)) ∧ Blk (w.heap.size + 1) B T ((w.alloc (.cells A.toArray T)).alloc (.cells B.toArray T)) ∧
      Below w.heap.size w ((w.alloc (.cells A.toArray T)).alloc (.cells B.toArray T)) :=
  ⟨(Blk.new A T w).alloc _, heap_alloc2_new w _ _, ((Below.refl _ w).alloc (Nat.le_refl _) _).alloc (by simp) _⟩

set_option maxRecDepth 100000 in
set_option maxHeartbeats 2000000 in
theorem equal_any (s t : St) (w : World) (h : SameCert w s.c t.c) (he : { s with c := t.c } = t) :
    Calls Tryd.prog 13 #[.agg s.row.toArray, .agg t.row.toArray] w fun e w' => e = .returned (.bool true) ∧ Below w.heap.size w w' := by
  have N1 := new_two w s.row t.row 36
  have S1 := fun u hu => same_any u s.c t.c (h.keep (w' := u) hu)
  obtain ⟨f0, f1, f2, f3, f4, f5, f6, f7, f8, f9, f10⟩ : s.a = t.a ∧ s.v = t.v ∧ s.n = t.n ∧ s.l = t.l ∧ s.d = t.d ∧ s.a2 = t.a2 ∧ s.k2 = t.k2 ∧ s.v2 = t.v2 ∧ s.n2 = t.n2 ∧ s.d2 = t.d2 ∧ s.s2 = t.s2 := by
    rw [← he]; exact ⟨rfl, rfl, rfl, rfl, rfl, rfl, rfl, rfl, rfl, rfl, rfl⟩
  clear he h
  go_enter Tryd.func13, Tryd.ntmps13
  go_upto_region 1 with fail
  generalize World.alloc _ _ = w1 at N1 ⊢
  obtain ⟨hX, hY, hB⟩ := N1
  obtain ⟨g, hg⟩ : ∃ g, w.heap.size = g := ⟨_, rfl⟩
  rw [hg] at hX hY ⊢
  obtain ⟨⟨a0, a1, a2, a3, a4, a5⟩, a6, a7, a8, a9, a10, a11⟩ := st_row hX
  obtain ⟨⟨b0, b1, b2, b3, b4, b5⟩, b6, b7, b8, b9, b10, b11⟩ := st_row hY
  rw [f0] at a0
  rw [f1] at a1
  rw [f2] at a2
  rw [f3] at a3
  rw [f4] at a4
  have P := S1 w1 hB
  generalize hsc : s.c = sc at P a5
  clear hsc
  go_wp2_with fail
  refine P.mono ?_
  rintro e w2 ⟨rfl, k2⟩
  have hX2 := hX.keep k2
  have hY2 := hY.keep k2
  have hB2 := hB.trans (k2.mono hB.size)
  clear a0 a1 a2 a3 a4 a5 a6 a7 a8 a9 a10 a11 b0 b1 b2 b3 b4 b5 b6 b7 b8 b9 b10 b11 hX hY P
  obtain ⟨_, a6, a7, a8, a9, a10, a11⟩ := st_row hX2
  obtain ⟨_, b6, b7, b8, b9, b10, b11⟩ := st_row hY2
  rw [f5] at a6
  rw [f6] at a7
  rw [f7] at a8
  rw [f8] at a9
  rw [f9] at a10
  rw [f10] at a11
  go_wp2_with fail
  go_ret
  exact ⟨rfl, hB2⟩

/-- the greatest length of the first k statuses, as the program keeps it and as the reference does -/
def lenAt (xs : List St) (k : Nat) : Int := (xs.getD k St.zero).n
def longP (xs : List St) : Nat → Int
  | 0 => lenAt xs 0
  | k + 1 => if longP xs k < lenAt xs k then lenAt xs k else longP xs k
def longR (xs : List St) : Nat → Int
  | 0 => -1
  | k + 1 => if k = 0 ∨ longR xs k < lenAt xs k then lenAt xs k else longR xs k
theorem long_same (xs : List St) : ∀ k, longP xs (k + 1) = longR xs (k + 1)
  | 0 => by simp [longP, longR]
  | k + 1 => by
    have ih := long_same xs k
    rw [longP, longR, ih]
    by_cases h : longR xs (k + 1) < lenAt xs (k + 1)
    · rw [if_pos h, if_pos (Or.inr h)]
    · rw [if_neg h, if_neg (fun h2 => h2.elim (fun h3 => by omega) h)]

set_option maxRecDepth 100000 in
set_option maxHeartbeats 2000000 in
theorem longest_any (xs : List St) (ao : Option Addr) (cap : Nat) (w : World) (hx : Stats w ao xs) (hn : xs.length ≤ 20) :
    Calls Tryd.prog 14 #[.slice ao xs.length cap] w fun e w' => e = .returned (.int .i64 (longR xs xs.length)) ∧ Below w.heap.size w w' := by
  by_cases h0 : xs.length = 0
  · have hR : longR xs xs.length = -1 := by rw [h0]; rfl
    rw [hR, h0]
    clear hx
    go_enter Tryd.func14, Tryd.ntmps14
    go_wp2_with fail
    go_ret
    exact ⟨rfl, Below.refl _ _⟩
  · have hpos : 0 < xs.length := by omega
    have hR : longR xs xs.length = longP xs xs.length := by
      have := long_same xs (xs.length - 1)
      rw [show xs.length - 1 + 1 = xs.length by omega] at this
      exact this.symm
    have hx0 := hx 0 _ (List.getElem?_eq_getElem hpos)
    obtain ⟨⟨b, off, rfl, hb, hr0⟩, _⟩ := hx0
    have k2 : w.cell? ⟨b, off + 2, none⟩ = some (.int .i64 (lenAt xs 0)) := by
      have h1 := hr0 2 _ rfl
      rw [Nat.zero_mul, Nat.add_zero] at h1
      rw [h1]
      unfold lenAt
      rw [List.getD_eq_getElem?_getD, List.getElem?_eq_getElem hpos]
      rfl
    have hne : (((xs.length : Nat) : Int) == 0) = false := beq_eq_false_iff_ne.2 (by omega)
    have hpi : (0 : Int) < xs.length := by omega
    have HX := Lib.hid hx
    have HR : ∀ _ : Unit, _ := fun _ => hR
    clear hx hr0 hR h0
    go_enter Tryd.func14, Tryd.ntmps14
    go_wp2_with fail
    clear k2
    go_loopw [3, 5, 15] (fun o _ x wr => ∃ i : Nat, x = .int .i64 (i : Int) ∧ i ≤ xs.length ∧ o = .int .i64 (longP xs i) ∧ Below w.heap.size w wr) (fun _ _ x _ => xs.length - (intOf x).toNat)
    case atStart => exact ⟨0, rfl, by omega, rfl, Below.refl _ _⟩
    case round =>
      obtain ⟨i, rfl, hi, rfl, hB⟩ := hrel
      by_cases hlt : i < xs.length
      · obtain ⟨⟨b', off', e1, hb', hr0⟩, hc⟩ := HX.out i _ (List.getElem?_eq_getElem hlt)
        injection e1 with e1
        injection e1 with e1 e2
        subst e1 e2
        have hr := range_keep hr0 hB hb'
        have hl : lenAt xs i = xs[i].n := by
          unfold lenAt
          rw [List.getD_eq_getElem?_getD, List.getElem?_eq_getElem hlt]
          rfl
        have hs : longP xs (i + 1) = if longP xs i < lenAt xs i then lenAt xs i else longP xs i := rfl
        rw [hl] at hs
        generalize xs[i] = s at hr hs hc
        have hone : s.c.oneCell' = true := by
          obtain ⟨_, _, _, h1, _⟩ := hc
          rw [h1]; rfl
        have HS : ∀ _ : Unit, _ := fun _ => hs
        clear hs hr0 hc hl
        go_upto_region 7 with (first
          | refine wpList_load_mid rfl 36 (.tmp 17) rfl b (off + i * 12) rfl s.row _ hr Tryd.underlying36 rfl (by kernel_rfl) ?_
          | refine wpList_store_row rfl 36 (.tmp 5) (.tmp 18) rfl wr.heap.size s.row.toArray rfl rfl 36 _ (heap_alloc_new _ _) (by kernel_rfl) (by rfl) (row_ones s hone) ?_)
        generalize hwv : World.setRow _ _ _ = wv
        have hQ : Blk wr.heap.size s.row 36 wv := by rw [← hwv]; exact setRow_heap _ _ _ _ _ _ (heap_alloc_new _ _)
        have hBr : Below wr.heap.size wr wv := by rw [← hwv]; exact Dg.Below.setRow _ ((Below.refl _ wr).alloc (Nat.le_refl _) _) (Nat.le_refl _)
        have hBv : Below w.heap.size w wv := hB.trans (hBr.mono hB.size)
        clear hwv hr hB hBr
        generalize wr.heap.size = q at hQ ⊢
        have c2 : wv.cell? ⟨q, 2, none⟩ = some (.int .i64 s.n) := hQ.cell 2
        generalize hlp : longP xs i = lp at HS
        clear hlp
        go_wp2_with fail
        go_roundw
        case rel => exact ⟨i + 1, by go_num, by omega, by rw [HS (), Int.max_def]; congr 1; split <;> split <;> omega, hBv⟩
        case measure => simp [intOf]; omega
      · obtain rfl : i = xs.length := by omega
        rw [← HR ()]
        go_wp2_with fail
        go_ret
        exact ⟨rfl, hB⟩

set_option maxRecDepth 100000 in
set_option maxHeartbeats 2000000 in
theorem refLongest_any (xs : List St) (ao : Option Addr) (cap : Nat) (w : World) (hx : Stats w ao xs) (hn : xs.length ≤ 20) :
    Calls Tryd.prog 15 #[.slice ao xs.length cap] w fun e w' => e = .returned (.int .i64 (longR xs xs.length)) ∧ w' = w := by
  go_enter Tryd.func15, Tryd.ntmps15
  go_wp2_with fail
  go_loop [3, 4] (fun o x => ∃ i : Nat, x = .int .i64 (i : Int) ∧ i ≤ xs.length ∧ o = .int .i64 (longR xs i)) (fun _ x => xs.length - (intOf x).toNat)
  case atStart => exact ⟨0, rfl, by omega, rfl⟩
  case round =>
    obtain ⟨i, rfl, hi, rfl⟩ := hrel
    by_cases hlt : i < xs.length
    · obtain ⟨⟨b, off, rfl, hb, hr⟩, _⟩ := hx i _ (List.getElem?_eq_getElem hlt)
      have hl : lenAt xs i = xs[i].n := by
        unfold lenAt
        rw [List.getD_eq_getElem?_getD, List.getElem?_eq_getElem hlt]
        rfl
      have hs : longR xs (i + 1) = if i = 0 ∨ longR xs i < lenAt xs i then lenAt xs i else longR xs i := rfl
      rw [hl] at hs
      generalize xs[i] = s at hr hs
      have c2 : w.cell? ⟨b, off + i * 12 + 2, none⟩ = some (.int .i64 s.n) := hr 2 _ rfl
      have HX := Lib.hid hx
      clear hx hr hl
      generalize hlp : longR xs i = lp at hs
      clear hlp
      by_cases hi0 : i = 0
      · rw [if_pos (Or.inl hi0)] at hs
        have HS : ∀ _ : Unit, _ := fun _ => hs
        clear hs
        subst hi0
        rw [Nat.zero_mul, Nat.add_zero] at c2
        go_wp2_with fail
        go_round
        case rel => exact ⟨1, by go_num, by omega, by rw [HS ()]⟩
        case measure => simp [intOf]; omega
      · have hz : (((i : Nat) : Int) == 0) = false := by simp [hi0]
        by_cases hm : lp < s.n
        · rw [if_pos (Or.inr hm)] at hs
          have HS : ∀ _ : Unit, _ := fun _ => hs
          clear hs
          go_wp2_with fail
          go_round
          case rel => exact ⟨i + 1, by go_num, by omega, by rw [HS ()]⟩
          case measure => simp [intOf]; omega
        · rw [if_neg (fun h => h.elim hi0 hm)] at hs
          have HS : ∀ _ : Unit, _ := fun _ => hs
          clear hs
          go_wp2_with fail
          go_round
          case rel => exact ⟨i + 1, by go_num, by omega, by rw [HS ()]⟩
          case measure => simp [intOf]; omega
    · obtain rfl : i = xs.length := by omega
      go_wp2_with fail
      go_ret
      exact ⟨rfl, rfl⟩

end Go.Proofs.YtnhbgjgfneoajaaDoor
