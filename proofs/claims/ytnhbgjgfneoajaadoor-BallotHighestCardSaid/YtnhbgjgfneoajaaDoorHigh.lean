/-
  The status with the greatest lock: the program's Highest.
-/
import Derived.Test.YtnhbgjgfneoajaaDoorCopy
import Derived.Test.YtnhbgjgfneoajaaDoorBalAwake
import Derived.Deep.MidRow
set_option linter.unusedVariables false
namespace Go.Proofs.YtnhbgjgfneoajaaDoor
open Go.RowKit

/-- a status that does not count -/
def skip (len wb : Int) (s : St) : Bool := (s.n != len) || decide (s.l < 1) || (decide (0 ≤ s.a) && decide (s.a < 16) && (bits .and .u16 (wb / 2 ^ s.a.toNat) 1 == 1))
def over (s t : St) : Bool := decide (t.l < s.l) || (s.l == t.l && decide (s.a < t.a))
def bestStep (len wb : Int) (b : Option St) (s : St) : Option St := if skip len wb s then b else match b with
  | none => some s
  | some t => if over s t then some s else some t
def best (len wb : Int) (xs : List St) : Option St := xs.foldl (bestStep len wb) none
def held (b : Option St) : St := b.getD St.zero

theorem best_snoc (len wb : Int) (xs : List St) (s : St) : best len wb (xs ++ [s]) = bestStep len wb (best len wb xs) s := by unfold best; rw [List.foldl_append]; rfl
theorem skip_l {len wb : Int} {s : St} (h : skip len wb s = false) : 1 ≤ s.l := by
  unfold skip at h
  simp only [Bool.or_eq_false_iff, decide_eq_false_iff_not] at h
  omega
theorem held_step (len wb : Int) (b : Option St) (s : St) : held (bestStep len wb b s) = if skip len wb s then held b else if over s (held b) then s else held b := by
  unfold bestStep
  cases h : skip len wb s with
  | true => rfl
  | false =>
    have hl := skip_l h
    cases b with
    | none =>
      have : over s (held none) = true := by
        unfold over held St.zero
        have : (0 : Int) < s.l := by omega
        simp [this]
      rw [this]
      rfl
    | some t =>
      show held (if over s t = true then some s else some t) = if over s t = true then s else t
      split <;> rfl
theorem best_from (len wb : Int) : ∀ (xs : List St) (b : Option St) (t : St), xs.foldl (bestStep len wb) b = some t → (∀ u, b = some u → 1 ≤ u.l) → 1 ≤ t.l ∧ (t ∈ xs ∨ b = some t)
  | [], b, t, h, hb => ⟨hb t h, Or.inr h⟩
  | s :: xs, b, t, h, hb => by
    rw [List.foldl_cons] at h
    have hstep : bestStep len wb b s = b ∨ (bestStep len wb b s = some s ∧ 1 ≤ s.l) := by
      unfold bestStep
      cases hk : skip len wb s with
      | true => exact Or.inl rfl
      | false =>
        have hl := skip_l hk
        cases b with
        | none => exact Or.inr ⟨rfl, hl⟩
        | some u =>
          show (if over s u = true then some s else some u) = some u ∨ _
          by_cases ho : over s u = true
          · rw [if_pos ho]; exact Or.inr ⟨by show (if over s u = true then some s else some u) = some s; rw [if_pos ho], hl⟩
          · rw [if_neg ho]; exact Or.inl rfl
    obtain ⟨h1, h2⟩ := best_from len wb xs _ t h (fun u hu => by
      rcases hstep with e | ⟨e, hl⟩
      · rw [e] at hu; exact hb u hu
      · rw [e] at hu
        obtain rfl := Option.some.inj hu
        exact hl)
    refine ⟨h1, ?_⟩
    rcases h2 with h2 | h2
    · exact Or.inl (List.mem_cons_of_mem _ h2)
    · rcases hstep with e | ⟨e, _⟩
      · rw [e] at h2; exact Or.inr h2
      · rw [e] at h2
        obtain rfl := Option.some.inj h2
        exact Or.inl List.mem_cons_self
theorem best_pos (len wb : Int) (xs : List St) (t : St) (h : best len wb xs = some t) : 1 ≤ t.l ∧ t ∈ xs := by
  obtain ⟨h1, h2⟩ := best_from len wb xs none t h (fun u hu => by cases hu)
  exact ⟨h1, h2.resolve_right (by simp)⟩

/-- statuses in a slice that came in -/
def Stats (w : World) (ao : Option Addr) (xs : List St) : Prop :=
  ∀ i s, xs[i]? = some s → (∃ b off, ao = some ⟨b, off, none⟩ ∧ b < w.heap.size ∧ w.rangeAt b (off + i * 12) s.row) ∧ CertOk w s.c

theorem st_row {g : Nat} {s : St} {w : World} (h : Blk g s.row 36 w) :
    (w.cell? ⟨g, 0, none⟩ = some (.int .i64 s.a) ∧ w.cell? ⟨g, 1, none⟩ = some (.int .i64 s.v) ∧ w.cell? ⟨g, 2, none⟩ = some (.int .i64 s.n) ∧ w.cell? ⟨g, 3, none⟩ = some (.int .i64 s.l) ∧ w.cell? ⟨g, 4, none⟩ = some (.string s.d) ∧ w.cell? ⟨g, 5, none⟩ = some s.c) ∧
      (w.cell? ⟨g, 6, none⟩ = some (.int .i64 s.a2) ∧ w.cell? ⟨g, 7, none⟩ = some (.int .i64 s.k2) ∧ w.cell? ⟨g, 8, none⟩ = some (.int .i64 s.v2) ∧ w.cell? ⟨g, 9, none⟩ = some (.int .i64 s.n2) ∧ w.cell? ⟨g, 10, none⟩ = some (.string s.d2) ∧ w.cell? ⟨g, 11, none⟩ = some (.string s.s2)) :=
  ⟨⟨h.cell 0, h.cell 1, h.cell 2, h.cell 3, h.cell 4, h.cell 5⟩, h.cell 6, h.cell 7, h.cell 8, h.cell 9, h.cell 10, h.cell 11⟩
theorem row_ones (s : St) (hc : s.c.oneCell' = true) : s.row.toArray.all (·.oneCell') = true := by
  unfold St.row
  simp only [Value.oneCell'] at hc ⊢
  simpa using hc

/-- what Highest returns: none, or the best status with a copy of its certificate -/
def HighPost : Option St → Ending → World → Prop
  | none, e, _ => e = .returned (.tuple #[.agg St.zero.row.toArray, .int .i64 4])
  | some t, e, w' => ∃ c', e = .returned (.tuple #[.agg ({ t with c := c' } : St).row.toArray, .int .i64 0]) ∧ SameCert w' t.c c'

set_option maxRecDepth 100000 in
set_option maxHeartbeats 4000000 in
theorem highest_any (xs : List St) (ao : Option Addr) (cap : Nat) (len wb : Int) (w : World) (hx : Stats w ao xs) (hn : xs.length ≤ 20) (hw0 : 0 ≤ wb) (hw1 : wb ≤ 65535) :
    Calls Tryd.prog 11 #[.slice ao xs.length cap, .int .i64 len, .int .u16 wb] w fun e w' =>
      HighPost (best len wb xs) e w' ∧ Below w.heap.size w w' := by
  go_enter Tryd.func11, Tryd.ntmps11
  go_upto_region 1 with fail
  generalize hw1 : w.alloc _ = w1
  have hA : Blk w.heap.size St.zero.row 36 w1 := by rw [← hw1]; exact Blk.new _ _ w
  have hB : Below w.heap.size w w1 := by rw [← hw1]; exact (Below.refl _ w).alloc (Nat.le_refl _) _
  clear hw1
  obtain ⟨g, hg⟩ : ∃ g, w.heap.size = g := ⟨_, rfl⟩
  rw [hg] at hA ⊢
  go_upto_region 2 with fail
  generalize hw2 : w1.alloc _ = w2
  have hA2 : Blk g St.zero.row 36 w2 := by rw [← hw2]; exact hA.alloc _
  have hV2 : Blk w1.heap.size (held (best len wb (xs.take 0))).row 36 w2 := by rw [← hw2]; exact Blk.new St.zero.row _ w1
  have hB2 : Below w.heap.size w w2 := by rw [← hw2]; exact hB.alloc hB.size _
  have hgp := hA.lt
  have hwp := hB.size
  clear hw2 hA hB
  generalize w1.heap.size = p at hV2 hgp hwp ⊢
  go_wp2_with fail
  go_loopw [10, 13] (fun _ x wr => ∃ i : Nat, x = .int .i64 (i : Int) ∧ i ≤ xs.length ∧ Blk g St.zero.row 36 wr ∧ Blk p (held (best len wb (xs.take i))).row 36 wr ∧ Below w.heap.size w wr) (fun _ x _ => xs.length - (intOf x).toNat)
  case atStart => exact ⟨0, rfl, by omega, hA2, hV2, hB2⟩
  case round =>
    clear hA2 hV2 hB2
    obtain ⟨i, rfl, hi, hA, hV, hB⟩ := hrel
    by_cases hlt : i < xs.length
    · obtain ⟨⟨b, off, rfl, hb, hr0⟩, hc⟩ := hx i _ (List.getElem?_eq_getElem hlt)
      have hr := range_keep hr0 hB hb
      have hs := held_step len wb (best len wb (xs.take i)) xs[i]
      rw [← best_snoc, List.take_append_getElem hlt] at hs
      generalize xs[i] = s at hr hs hc
      generalize held (best len wb (xs.take i)) = t at hV hs
      have HS : ∀ _ : Unit, _ := fun _ => hs
      have hone : s.c.oneCell' = true := by
        obtain ⟨_, _, _, h1, _⟩ := hc
        rw [h1]; rfl
      clear hs hr0 hx hc
      go_upto_region 5 with (first
        | refine wpList_load_mid rfl 36 (.tmp 15) rfl b (off + i * 12) rfl s.row _ hr Tryd.underlying36 rfl (by kernel_rfl) ?_
        | refine wpList_store_row rfl 36 (.tmp 10) (.tmp 16) rfl wr.heap.size s.row.toArray rfl rfl 36 _ (heap_alloc_new _ _) (by kernel_rfl) (by rfl) (row_ones s hone) ?_)
      generalize hwv : World.setRow _ _ _ = wv
      have hQ : Blk wr.heap.size s.row 36 wv := by rw [← hwv]; exact setRow_heap _ _ _ _ _ _ (heap_alloc_new _ _)
      have hBr : Below wr.heap.size wr wv := by rw [← hwv]; exact Dg.Below.setRow _ ((Below.refl _ wr).alloc (Nat.le_refl _) _) (Nat.le_refl _)
      have hAv : Blk g St.zero.row 36 wv := hA.keep hBr
      have hVv : Blk p t.row 36 wv := hV.keep hBr
      have hBv : Below w.heap.size w wv := hB.trans (hBr.mono hB.size)
      clear hwv hr hA hV hB hBr
      generalize wr.heap.size = q at hQ ⊢
      obtain ⟨⟨c0, c1, c2, c3, c4, c5⟩, c6, c7, c8, c9, c10, c11⟩ := st_row hQ
      have d0 : wv.cell? ⟨p, 0, none⟩ = some (.int .i64 t.a) := hVv.cell 0
      have d3 : wv.cell? ⟨p, 3, none⟩ = some (.int .i64 t.l) := hVv.cell 3
      by_cases h1 : s.n = len
      · have h1b : (s.n != len) = false := by simp [h1]
        by_cases h2 : s.l < 1
        · clear h1
          have hk : skip len wb s = true := by unfold skip; rw [h1b]; simp [h2]
          rw [hk] at HS
          go_wp2_with fail
          go_roundw
          case rel => exact ⟨i + 1, by go_num, by omega, hAv, by rw [HS ()]; exact hVv, hBv⟩
          case measure => simp [intOf]; omega
        by_cases h3 : s.a < 0
        · have hk : skip len wb s = false := by unfold skip; rw [h1b]; simp <;> omega
          clear h1
          rw [hk] at HS
          have HS1 : ∀ _ : Unit, held (best len wb (xs.take (i + 1))) = if over s t then s else t := fun _ => HS ()
          clear HS hk
          by_cases m1 : t.l < s.l
          · have ho : over s t = true := by unfold over; simp [m1]
            go_upto_region 7 with fail
            go_wp2_with (refine wpList_store_row rfl 36 (.tmp 8) (.tmp 63) rfl p s.row.toArray rfl rfl 36 _ hVv (by kernel_rfl) (by rfl) (row_ones s hone) ?_)
            go_roundw
            case rel => exact ⟨i + 1, by go_num, by omega, (setRow_other _ p g _ (by omega)).trans hAv, by rw [HS1 (), ho]; exact setRow_heap _ _ _ _ _ _ hVv, Dg.Below.setRow _ hBv hwp⟩
            case measure => simp [intOf]; omega
          by_cases m2 : s.l = t.l
          · by_cases m3 : s.a < t.a
            · have ho : over s t = true := by unfold over; simp [m2, m3]
              have m2' : (s.l == t.l) = true := by simp [m2]
              clear m2
              go_upto_region 7 with fail
              go_wp2_with (refine wpList_store_row rfl 36 (.tmp 8) (.tmp 63) rfl p s.row.toArray rfl rfl 36 _ hVv (by kernel_rfl) (by rfl) (row_ones s hone) ?_)
              go_roundw
              case rel => exact ⟨i + 1, by go_num, by omega, (setRow_other _ p g _ (by omega)).trans hAv, by rw [HS1 (), ho]; exact setRow_heap _ _ _ _ _ _ hVv, Dg.Below.setRow _ hBv hwp⟩
              case measure => simp [intOf]; omega
            · have ho : over s t = false := by unfold over; simp [m1, m3] <;> omega
              have m2' : (s.l == t.l) = true := by simp [m2]
              clear m2
              go_wp2_with fail
              go_roundw
              case rel => exact ⟨i + 1, by go_num, by omega, hAv, by rw [HS1 (), ho]; exact hVv, hBv⟩
              case measure => simp [intOf]; omega
          · have ho : over s t = false := by unfold over; simp [m1, m2]
            have m2' : (s.l == t.l) = false := by simp [m2]
            clear m2
            go_wp2_with fail
            go_roundw
            case rel => exact ⟨i + 1, by go_num, by omega, hAv, by rw [HS1 (), ho]; exact hVv, hBv⟩
            case measure => simp [intOf]; omega
        by_cases h4 : s.a < 16
        · have h3p : 0 ≤ s.a := by omega
          by_cases h5 : (bits .and .u16 (wb / 2 ^ s.a.toNat) 1 == 1) = true
          · clear h1 h3
            have hk : skip len wb s = true := by unfold skip; rw [h5]; simp <;> omega
            rw [hk] at HS
            go_wp2_with fail
            go_roundw
            case rel => exact ⟨i + 1, by go_num, by omega, hAv, by rw [HS ()]; exact hVv, hBv⟩
            case measure => simp [intOf]; omega
          · have h5 : (bits .and .u16 (wb / 2 ^ s.a.toNat) 1 == 1) = false := by simpa using h5
            have hk : skip len wb s = false := by unfold skip; rw [h1b, h5]; simp <;> omega
            clear h1 h3
            rw [hk] at HS
            have HS1 : ∀ _ : Unit, held (best len wb (xs.take (i + 1))) = if over s t then s else t := fun _ => HS ()
            clear HS hk
            by_cases m1 : t.l < s.l
            · have ho : over s t = true := by unfold over; simp [m1]
              go_upto_region 7 with fail
              go_wp2_with (refine wpList_store_row rfl 36 (.tmp 8) (.tmp 63) rfl p s.row.toArray rfl rfl 36 _ hVv (by kernel_rfl) (by rfl) (row_ones s hone) ?_)
              go_roundw
              case rel => exact ⟨i + 1, by go_num, by omega, (setRow_other _ p g _ (by omega)).trans hAv, by rw [HS1 (), ho]; exact setRow_heap _ _ _ _ _ _ hVv, Dg.Below.setRow _ hBv hwp⟩
              case measure => simp [intOf]; omega
            by_cases m2 : s.l = t.l
            · by_cases m3 : s.a < t.a
              · have ho : over s t = true := by unfold over; simp [m2, m3]
                have m2' : (s.l == t.l) = true := by simp [m2]
                clear m2
                go_upto_region 7 with fail
                go_wp2_with (refine wpList_store_row rfl 36 (.tmp 8) (.tmp 63) rfl p s.row.toArray rfl rfl 36 _ hVv (by kernel_rfl) (by rfl) (row_ones s hone) ?_)
                go_roundw
                case rel => exact ⟨i + 1, by go_num, by omega, (setRow_other _ p g _ (by omega)).trans hAv, by rw [HS1 (), ho]; exact setRow_heap _ _ _ _ _ _ hVv, Dg.Below.setRow _ hBv hwp⟩
                case measure => simp [intOf]; omega
              · have ho : over s t = false := by unfold over; simp [m1, m3] <;> omega
                have m2' : (s.l == t.l) = true := by simp [m2]
                clear m2
                go_wp2_with fail
                go_roundw
                case rel => exact ⟨i + 1, by go_num, by omega, hAv, by rw [HS1 (), ho]; exact hVv, hBv⟩
                case measure => simp [intOf]; omega
            · have ho : over s t = false := by unfold over; simp [m1, m2]
              have m2' : (s.l == t.l) = false := by simp [m2]
              clear m2
              go_wp2_with fail
              go_roundw
              case rel => exact ⟨i + 1, by go_num, by omega, hAv, by rw [HS1 (), ho]; exact hVv, hBv⟩
              case measure => simp [intOf]; omega
        · have hk : skip len wb s = false := by unfold skip; rw [h1b]; simp <;> omega
          clear h1
          rw [hk] at HS
          have HS1 : ∀ _ : Unit, held (best len wb (xs.take (i + 1))) = if over s t then s else t := fun _ => HS ()
          clear HS hk
          by_cases m1 : t.l < s.l
          · have ho : over s t = true := by unfold over; simp [m1]
            go_upto_region 7 with fail
            go_wp2_with (refine wpList_store_row rfl 36 (.tmp 8) (.tmp 63) rfl p s.row.toArray rfl rfl 36 _ hVv (by kernel_rfl) (by rfl) (row_ones s hone) ?_)
            go_roundw
            case rel => exact ⟨i + 1, by go_num, by omega, (setRow_other _ p g _ (by omega)).trans hAv, by rw [HS1 (), ho]; exact setRow_heap _ _ _ _ _ _ hVv, Dg.Below.setRow _ hBv hwp⟩
            case measure => simp [intOf]; omega
          by_cases m2 : s.l = t.l
          · by_cases m3 : s.a < t.a
            · have ho : over s t = true := by unfold over; simp [m2, m3]
              have m2' : (s.l == t.l) = true := by simp [m2]
              clear m2
              go_upto_region 7 with fail
              go_wp2_with (refine wpList_store_row rfl 36 (.tmp 8) (.tmp 63) rfl p s.row.toArray rfl rfl 36 _ hVv (by kernel_rfl) (by rfl) (row_ones s hone) ?_)
              go_roundw
              case rel => exact ⟨i + 1, by go_num, by omega, (setRow_other _ p g _ (by omega)).trans hAv, by rw [HS1 (), ho]; exact setRow_heap _ _ _ _ _ _ hVv, Dg.Below.setRow _ hBv hwp⟩
              case measure => simp [intOf]; omega
            · have ho : over s t = false := by unfold over; simp [m1, m3] <;> omega
              have m2' : (s.l == t.l) = true := by simp [m2]
              clear m2
              go_wp2_with fail
              go_roundw
              case rel => exact ⟨i + 1, by go_num, by omega, hAv, by rw [HS1 (), ho]; exact hVv, hBv⟩
              case measure => simp [intOf]; omega
          · have ho : over s t = false := by unfold over; simp [m1, m2]
            have m2' : (s.l == t.l) = false := by simp [m2]
            clear m2
            go_wp2_with fail
            go_roundw
            case rel => exact ⟨i + 1, by go_num, by omega, hAv, by rw [HS1 (), ho]; exact hVv, hBv⟩
            case measure => simp [intOf]; omega
      · have h1b : (s.n != len) = true := by simp [h1]
        clear h1
        have hk : skip len wb s = true := by unfold skip; rw [h1b]; rfl
        rw [hk] at HS
        go_wp2_with fail
        go_roundw
        case rel => exact ⟨i + 1, by go_num, by omega, hAv, by rw [HS ()]; exact hVv, hBv⟩
        case measure => simp [intOf]; omega
    · obtain rfl : i = xs.length := by omega
      rw [List.take_length] at hV
      have hpos := best_pos len wb xs
      cases hb : best len wb xs with
      | none =>
        rw [hb] at hV
        have d3 : wr.cell? ⟨p, 3, none⟩ = some (.int .i64 0) := hV.cell 3
        go_wp2_with (refine wpList_store_row rfl 36 (.tmp 6) (.tmp 68) rfl g St.zero.row.toArray rfl rfl 36 _ hA (by kernel_rfl) (by kernel_rfl) (by kernel_rfl) ?_)
        exact bodyPost_ret (results_row_tmp rfl _ _ g 36 St.zero.row.toArray (0, 0) _ rfl (setRow_heap _ _ _ _ _ _ hA) Tryd.underlying36 rfl (by kernel_rfl)) rfl ⟨by rw [hb]; rfl, Dg.Below.setRow _ hB (by omega)⟩
      | some t =>
        obtain ⟨hl, hm⟩ := hpos t hb
        rw [hb] at hV
        have hV : Blk p t.row 36 wr := hV
        obtain ⟨j, hj, hj2⟩ := List.getElem_of_mem hm
        have hcw : CertOk w t.c := (hx j t (by rw [List.getElem?_eq_getElem hj, hj2])).2
        have hc : CertOk wr t.c := hcw.keep (B := 0) hB
        obtain ⟨c', w3, hrun, hB3, hsame, hone'⟩ := copy_cert wr t.c 32 hc p g hV.lt hA.lt (fun b off n cap e hn0 => by
          obtain ⟨ao2, n2, cap2, e1, _, _, e4⟩ := hcw
          rw [e] at e1
          injection e1 with q1 q2 q3
          subst q1 q2 q3
          obtain ⟨b2, off2, r, f1, f2, _⟩ := e4 0 hn0
          injection f1 with f1
          injection f1 with f3 f4
          subst f3
          exact ⟨by omega, by omega⟩)
        obtain ⟨a', n', k', rfl⟩ : ∃ a n k, c' = .slice a n k := by
          obtain ⟨_, a', n', _, k', _, h1, _⟩ := hsame w3 (fun _ _ _ => rfl) (Nat.le_refl _)
          exact ⟨_, _, _, h1⟩
        have hV3 : Blk p t.row 36 w3 := hV.keep hB3
        have hA3 : Blk g St.zero.row 36 w3 := hA.keep hB3
        have hBw := hB.trans (hB3.mono hB.size)
        have d3 : wr.cell? ⟨p, 3, none⟩ = some (.int .i64 t.l) := hV.cell 3
        have d5 : wr.cell? ⟨p, 5, none⟩ = some t.c := hV.cell 5
        have e5 : w3.cell? ⟨p, 5, none⟩ = some t.c := hV3.cell 5
        have f5 := hV3.free 5
        have hz : (t.l == 0) = false := by simp; omega
        have HX := Lib.hid hx
        have HR := Lib.hid hrun
        clear hx hrun hc hcw hm hj2 hpos
        go_upto_region 12 with (at_builtin; refine wpList_app rfl (.const (.slice none 0 0)) (.tmp 70) 32 rfl _ _ rfl rfl (.slice a' n' k') w3 HR.out ?_)
        have hsame5 : ∀ (x : Array Value), SameCert ((w3.setCell ⟨p, 5, none⟩ (.slice a' n' k')).setRow g x) t.c (.slice a' n' k') := fun x => by
          refine hsame _ (fun k hkp hkg => ?_) ?_
          · exact (setRow_other _ g k x hkg).trans (heap_setCell_other w3 ⟨p, 5, none⟩ k (.slice a' n' k') hkp)
          · exact Nat.le_of_eq (by simp [World.setCell, World.setRow])
        clear hsame
        generalize hw4 : w3.setCell _ _ = w4 at hsame5 ⊢
        obtain ⟨t', ht'⟩ : ∃ t' : St, t' = { t with c := .slice a' n' k' } := ⟨_, rfl⟩
        have hV4 : Blk p t'.row 36 w4 := by rw [← hw4, ht']; exact hV3.set 5 _
        have hA4 : Blk g St.zero.row 36 w4 := by rw [← hw4]; exact hA3.other _ _ (by omega)
        have hB4 : Below w.heap.size w w4 := by rw [← hw4]; exact hBw.setCell (p := ⟨p, 5, none⟩) hwp _
        have hone : t'.c.oneCell' = true := by rw [ht']; rfl
        have HT : ∀ _ : Unit, t' = { t with c := .slice a' n' k' } := fun _ => ht'
        clear ht' hw4 hV3 hA3 hBw HR HX hV hA hB hB3 d3 d5 e5 f5
        obtain ⟨⟨c0, c1, c2, c3, c4, c5⟩, c6, c7, c8, c9, c10, c11⟩ := st_row hV4
        go_wp2_with (refine wpList_store_row rfl 36 (.tmp 6) (.tmp 73) rfl g t'.row.toArray rfl rfl 36 _ hA4 (by kernel_rfl) (by rfl) (row_ones t' hone) ?_)
        exact bodyPost_ret (results_row_tmp rfl _ _ g 36 t'.row.toArray (0, 0) _ rfl (setRow_heap _ _ _ _ _ _ hA4) Tryd.underlying36 rfl (by kernel_rfl)) rfl ⟨by rw [hb]; exact ⟨_, by rw [HT ()]; rfl, hsame5 _⟩, Dg.Below.setRow _ hB4 (by omega)⟩

end Go.Proofs.YtnhbgjgfneoajaaDoor
