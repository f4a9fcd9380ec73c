/-
  The code of a signed statement, and its reading: the program's and the reference's.
-/
import Derived.Test.YtkabkcokklgfoaaSign
import Derived.Test.YtkabkcokklgfoaaReader
set_option linter.unusedVariables false
namespace Go.Proofs.Ytkabkcokklgfoaa
open Go.RowKit
open Go.Proofs.Ytkabkcokklgfoaa.Dg (region_tail)

namespace V
/-- two strings to the end -/
def two (m : List UInt8) : Option (List UInt8 × List UInt8) :=
  if V.fin (V.rd [] V.getStr (V.rd [] V.getStr m 0).2.1 (V.rd [] V.getStr m 0).2.2).2.1 (V.rd [] V.getStr (V.rd [] V.getStr m 0).2.1 (V.rd [] V.getStr m 0).2.2).2.2 = 0
  then some ((V.rd [] V.getStr m 0).1, (V.rd [] V.getStr (V.rd [] V.getStr m 0).2.1 (V.rd [] V.getStr m 0).2.2).1) else none
theorem two_err1 (m : List UInt8) (h : (V.getStr m).2.2 ≠ 0) : two m = none := by
  have h1 : V.rd [] V.getStr m 0 = ([], m, (V.getStr m).2.2) := by unfold V.rd; simp [h]
  have h2 : V.rd [] V.getStr m (V.getStr m).2.2 = ([], m, (V.getStr m).2.2) := by unfold V.rd; simp [h]
  unfold two
  rw [h1]
  simp only
  rw [h2]
  unfold V.fin
  simp [h]
theorem two_err2 (m x : List UInt8) (q : Nat) (h : V.getStr m = (x, q, 0)) (h' : (V.getStr (m.drop q)).2.2 ≠ 0) : two m = none := by
  have h1 : V.rd [] V.getStr m 0 = (x, m.drop q, 0) := by unfold V.rd; simp [h]
  have h2 : V.rd [] V.getStr (m.drop q) 0 = ([], m.drop q, (V.getStr (m.drop q)).2.2) := by unfold V.rd; simp [h']
  unfold two
  rw [h1]
  simp only
  rw [h2]
  unfold V.fin
  simp [h']
theorem two_end (m x y : List UInt8) (q r : Nat) (h : V.getStr m = (x, q, 0)) (h' : V.getStr (m.drop q) = (y, r, 0)) : two m = if (m.drop q).drop r = [] then some (x, y) else none := by
  have h1 : V.rd [] V.getStr m 0 = (x, m.drop q, 0) := by unfold V.rd; simp [h]
  have h2 : V.rd [] V.getStr (m.drop q) 0 = (y, (m.drop q).drop r, 0) := by unfold V.rd; simp [h']
  unfold two
  rw [h1]
  simp only
  rw [h2]
  unfold V.fin
  by_cases e : (m.drop q).drop r = []
  · simp [e]
  · simp
end V

/-- what a reading of a signed statement returns -/
def dval : Option (Int × Int × Int × Int × List UInt8 × List UInt8) → Value
  | none => .tuple #[.agg (sg 0 0 0 0 ⟨#[]⟩ ⟨#[]⟩).toArray, .int .i64 2]
  | some (a, k, v, n, x, y) => .tuple #[.agg (sg a k v n (S x) (S y)).toArray, .int .i64 0]
def dec (l : List UInt8) : Option (Int × Int × Int × Int × List UInt8 × List UInt8) :=
  match V.getInts l with
  | ([a, k, v, n], p, 0) => (V.two (l.drop p)).map fun q => (a, k, v, n, q.1, q.2)
  | _ => none
theorem dec_err (l : List UInt8) (h : (V.getInts l).2.2 ≠ 0) : dec l = none := by
  unfold dec
  split
  · rename_i e; rw [e] at h; exact absurd rfl h
  · rfl
theorem dec_len (l : List UInt8) (h : (V.getInts l).1.length ≠ 4) : dec l = none := by
  unfold dec
  split
  · rename_i e; rw [e] at h; exact absurd rfl h
  · rfl
theorem dec_four (l : List UInt8) (a k v n : Int) (p : Nat) (h : V.getInts l = ([a, k, v, n], p, 0)) : dec l = (V.two (l.drop p)).map fun q => (a, k, v, n, q.1, q.2) := by
  unfold dec
  rw [h]
  rfl
theorem four_of (l : List UInt8) (h : (V.getInts l).2.2 = 0) (h4 : (V.getInts l).1.length = 4) : ∃ a k v n p, V.getInts l = ([a, k, v, n], p, 0) := by
  generalize V.getInts l = r at h h4 ⊢
  obtain ⟨xs, p, e⟩ := r
  obtain rfl : e = 0 := h
  match xs, h4 with
  | [a, k, v, n], _ => exact ⟨a, k, v, n, p, rfl⟩

/-- four numbers lie in a row -/
def Four (b off : Nat) (a k v n : Int) (u : World) : Prop := u.cell? ⟨b, off, none⟩ = some (.int .i64 a) ∧ u.cell? ⟨b, off + 1, none⟩ = some (.int .i64 k) ∧ u.cell? ⟨b, off + 2, none⟩ = some (.int .i64 v) ∧ u.cell? ⟨b, off + 3, none⟩ = some (.int .i64 n)
theorem four_keep {b off : Nat} {a k v n : Int} {w u : World} (h : Four b off a k v n w) (hb : Below w.heap.size w u) : Four b off a k v n u :=
  ⟨Gr.cell (w := w) ⟨u, hb⟩ h.1, Gr.cell (w := w) ⟨u, hb⟩ h.2.1, Gr.cell (w := w) ⟨u, hb⟩ h.2.2.1, Gr.cell (w := w) ⟨u, hb⟩ h.2.2.2⟩
theorem rd_bound (l : List UInt8) (e : Nat) (he : e ≤ 9) : (V.rd [] V.getStr l e).2.2 ≤ 9 ∧ (V.rd [] V.getStr l e).2.1.length ≤ l.length := by
  have h := (V.getStr_part l).1
  unfold V.rd
  split
  · exact ⟨he, Nat.le_refl _⟩
  · split
    · exact ⟨h, Nat.le_refl _⟩
    · exact ⟨Nat.zero_le _, by rw [List.length_drop]; omega⟩

set_option maxRecDepth 100000 in
set_option maxHeartbeats 2000000 in
theorem decode_any (s : ByteArray) (w : World) (hs : s.size ≤ 1000000) :
    Calls Try.prog 6 #[.string s] w fun e w' => e = .returned (dval (dec (L s))) ∧ Below w.heap.size w w' := by
  have hgb := V.getListOf_bound V.getInt V.getInt_part (L s)
  go_enter Try.func6, Try.ntmps6
  go_upto_region 1 with fail
  generalize hw1 : w.alloc _ = w1
  have hA : Blk w.heap.size (sg 0 0 0 0 ⟨#[]⟩ ⟨#[]⟩) 24 w1 := by rw [← hw1]; exact Blk.new _ _ w
  have hB : Below w.heap.size w w1 := by rw [← hw1]; exact (Below.refl _ w).alloc (Nat.le_refl _) _
  clear hw1
  obtain ⟨g, hg⟩ : ∃ g, w.heap.size = g := ⟨_, rfl⟩
  rw [hg] at hA ⊢
  go_wp2_with fail
  refine (getInts_any s w1 (by omega)).mono ?_
  rintro e w2 ⟨v, rfl, ho, hB2⟩
  have hA2 := hA.keep hB2
  have hBw := hB.trans (hB2.mono hB.size)
  clear hA hB hB2
  obtain ⟨ao, cap, rfl, hc⟩ := ownsI_cells ho
  by_cases he : (V.getInts (L s)).2.2 = 0
  · by_cases h4 : (V.getInts (L s)).1.length = 4
    · obtain ⟨a, k, v, n, p, h⟩ := four_of (L s) he h4
      have hz := dec_four (L s) a k v n p h
      have e1 : (V.getInts (L s)).1 = [a, k, v, n] := by rw [h]
      have e2 : (V.getInts (L s)).2.1 = p := by rw [h]
      have hp : p ≤ (L s).length := by
        have h1 := (hgb.2.1 he).2.1
        rw [show V.getListOf V.getInt (L s) = ([a, k, v, n], p, 0) from h] at h1
        exact h1
      have hps : (p : Int) ≤ s.size := by
        have : (L s).length = s.size := Array.length_toList
        omega
      rw [h4, e1] at hc
      obtain ⟨b, off, rfl, c0⟩ := hc 0 (by omega)
      have cl : ∀ i, i < 4 → w2.cell? ⟨b, off + i, none⟩ = some (intAt [a, k, v, n] i) := fun i hi => by
        obtain ⟨b', off', e, h1⟩ := hc i hi
        injection e with e
        injection e with e1 e2
        subst e1 e2
        exact h1
      have c0 : w2.cell? ⟨b, off, none⟩ = some (.int .i64 a) := cl 0 (by omega)
      have c1 : w2.cell? ⟨b, off + 1, none⟩ = some (.int .i64 k) := cl 1 (by omega)
      have c2 : w2.cell? ⟨b, off + 2, none⟩ = some (.int .i64 v) := cl 2 (by omega)
      have c3 : w2.cell? ⟨b, off + 3, none⟩ = some (.int .i64 n) := cl 3 (by omega)
      rw [h4, e2, he]
      clear cl hc ho hgb h e1 e2 he h4
      go_wp2_with fail
      refine (newReader_any _ w2).mono ?_
      rintro e w3 ⟨rfl, hw3⟩
      have hex : s.extract p s.size = S ((L s).drop p) := S_ext (L_from s p)
      rw [hex] at hw3
      have hml : ((L s).drop p).length ≤ 1000000 := by
        have : (L s).length = s.size := Array.length_toList
        rw [List.length_drop]; omega
      generalize (L s).drop p = m at hw3 hz hml
      have hR : IsReader w2.heap.size m 0 w3 := by rw [hw3]; exact heap_alloc_new _ _
      have hB3 : Below w2.heap.size w2 w3 := by rw [hw3]; exact (Below.refl _ w2).alloc (Nat.le_refl _) _
      have hA3 := hA2.keep hB3
      have hBx := hBw.trans (hB3.mono hBw.size)
      have d0 : w3.cell? ⟨b, off, none⟩ = some (.int .i64 a) := Gr.cell (w := w2) ⟨w3, hB3⟩ c0
      have d1 : w3.cell? ⟨b, off + 1, none⟩ = some (.int .i64 k) := Gr.cell (w := w2) ⟨w3, hB3⟩ c1
      have d2 : w3.cell? ⟨b, off + 2, none⟩ = some (.int .i64 v) := Gr.cell (w := w2) ⟨w3, hB3⟩ c2
      have d3 : w3.cell? ⟨b, off + 3, none⟩ = some (.int .i64 n) := Gr.cell (w := w2) ⟨w3, hB3⟩ c3
      have hgq := hA2.lt
      have hwq := hBw.size
      clear c0 c1 c2 c3 hw3 hB3 hA2 hBw
      generalize w2.heap.size = q at hR hgq hwq ⊢
      go_upto_region 5 with fail
      have hF : Four b off a k v n w3.drew := ⟨d0, d1, d2, d3⟩
      have hFa : ∀ o, Four b off a k v n (w3.alloc o).drew := fun o => four_keep (w := w3) ⟨d0, d1, d2, d3⟩ ((Below.refl _ w3).alloc (Nat.le_refl _) o).drew
      go_region_held3 (fun u => u.cell? ⟨b, off, none⟩ = some (.int .i64 a) ∧ u.cell? ⟨b, off + 1, none⟩ = some (.int .i64 k) ∧ u.cell? ⟨b, off + 2, none⟩ = some (.int .i64 v) ∧ u.cell? ⟨b, off + 3, none⟩ = some (.int .i64 n))
        (first | assumption | exact hF | exact hFa _)
        (first | fail | fail)
      generalize hw4 : (w3.alloc _).drew = w4
      have hV4 : Blk w3.heap.size (sg a k v n ⟨#[]⟩ ⟨#[]⟩) 24 w4 := by rw [← hw4]; exact Blk.new _ _ w3
      have hB34 : Below w3.heap.size w3 w4 := by rw [← hw4]; exact ((Below.refl _ w3).alloc (Nat.le_refl _) _).drew
      have hA4 := hA3.keep hB34
      have hR4 := hR.keep hB34
      have hB4 := hBx.trans (hB34.mono hBx.size)
      have hqp := hR.lt
      clear hF hFa hw4 hB34 hA3 hR hBx d0 d1 d2 d3
      generalize w3.heap.size = px at hV4 hqp ⊢
      have P1 := string_any q m 0 w4 hR4 (by omega) (by omega)
      have hb1 := rd_bound m 0 (by omega)
      have ht : V.two m = if V.fin (V.rd [] V.getStr (V.rd [] V.getStr m 0).2.1 (V.rd [] V.getStr m 0).2.2).2.1 (V.rd [] V.getStr (V.rd [] V.getStr m 0).2.1 (V.rd [] V.getStr m 0).2.2).2.2 = 0
        then some ((V.rd [] V.getStr m 0).1, (V.rd [] V.getStr (V.rd [] V.getStr m 0).2.1 (V.rd [] V.getStr m 0).2.2).1) else none := rfl
      generalize V.rd [] V.getStr m 0 = r1 at P1 hb1 ht
      have hb2 := rd_bound r1.2.1 r1.2.2 hb1.1
      go_wp2_with fail
      refine P1.mono ?_
      rintro e w5 ⟨rfl, hR5, hK5⟩
      have hV5 := hV4.keeps hK5 (by omega)
      have hA5 := hA4.keeps hK5 (by omega)
      have hB5 := hB4.trans (hK5.below (B := w.heap.size) (by omega) hR4.lt)
      clear P1 hV4 hA4 hB4 hR4 hK5
      have c4 : w5.cell? ⟨px, 4, none⟩ = some (.string ⟨#[]⟩) := hV5.cell 4
      have f4 := hV5.free 4
      go_upto_region 7 with fail
      clear c4 f4
      generalize hw6 : w5.setCell _ _ = w6
      have hV6 : Blk px (sg a k v n (S r1.1) ⟨#[]⟩) 24 w6 := by rw [← hw6]; exact hV5.set 4 _
      have hA6 : Blk g (sg 0 0 0 0 ⟨#[]⟩ ⟨#[]⟩) 24 w6 := by rw [← hw6]; exact hA5.other _ _ (by omega)
      have hR6 : IsReader q r1.2.1 r1.2.2 w6 := by rw [← hw6]; exact Blk.other (l := [.string (S r1.2.1), .int .i64 r1.2.2]) hR5 _ _ (by omega)
      have hB6 : Below w.heap.size w w6 := by rw [← hw6]; exact hB5.setCell (p := ⟨px, 4, none⟩) (by show w.heap.size ≤ px; omega) _
      clear hw6 hV5 hA5 hR5 hB5
      have P2 := string_any q r1.2.1 r1.2.2 w6 hR6 hb1.1 (by omega)
      generalize V.rd [] V.getStr r1.2.1 r1.2.2 = r2 at P2 hb2 ht
      go_wp2_with fail
      refine P2.mono ?_
      rintro e w7 ⟨rfl, hR7, hK7⟩
      have hV7 := hV6.keeps hK7 (by omega)
      have hA7 := hA6.keeps hK7 (by omega)
      have hB7 := hB6.trans (hK7.below (B := w.heap.size) (by omega) hR6.lt)
      clear P2 hV6 hA6 hB6 hR6 hK7
      have c5 : w7.cell? ⟨px, 5, none⟩ = some (.string ⟨#[]⟩) := hV7.cell 5
      have f5 := hV7.free 5
      go_upto_region 8 with fail
      clear c5 f5
      generalize hw8 : w7.setCell _ _ = w8
      have hV8 : Blk px (sg a k v n (S r1.1) (S r2.1)) 24 w8 := by rw [← hw8]; exact hV7.set 5 _
      have hA8 : Blk g (sg 0 0 0 0 ⟨#[]⟩ ⟨#[]⟩) 24 w8 := by rw [← hw8]; exact hA7.other _ _ (by omega)
      have hR8 : IsReader q r2.2.1 r2.2.2 w8 := by rw [← hw8]; exact Blk.other (l := [.string (S r2.2.1), .int .i64 r2.2.2]) hR7 _ _ (by omega)
      have hB8 : Below w.heap.size w w8 := by rw [← hw8]; exact hB7.setCell (p := ⟨px, 5, none⟩) (by show w.heap.size ≤ px; omega) _
      clear hw8 hV7 hA7 hR7 hB7
      have P3 := end_any q r2.2.1 r2.2.2 w8 hR8 (by omega)
      go_wp2_with fail
      refine P3.mono ?_
      rintro e w9 ⟨rfl, rfl⟩
      by_cases hf : V.fin r2.2.1 r2.2.2 = 0
      · rw [if_pos hf] at ht
        rw [ht] at hz
        rw [hf]
        have Hz : ∀ _ : Unit, _ := fun _ => hz
        clear hz ht P3
        obtain ⟨c0, c1, c2, c3, c4, c5⟩ := sg_at hV8
        go_wp2_with (refine wpList_store_row rfl 24 (.tmp 2) (.tmp 50) rfl g (sg a k v n (S r1.1) (S r2.1)).toArray rfl rfl 24 _ hA8 (by kernel_rfl) (by kernel_rfl) (by simp [Value.oneCell']) ?_)
        exact bodyPost_ret (results_row_tmp rfl _ _ g 24 (sg a k v n (S r1.1) (S r2.1)).toArray (0, 0) _ rfl (setRow_heap _ _ _ _ _ _ hA8) Try.underlying24 rfl (by kernel_rfl)) rfl ⟨by rw [Hz ()]; rfl, Dg.Below.setRow _ hB8 (by omega)⟩
      · rw [if_neg hf] at ht
        rw [ht] at hz
        have Hz : ∀ _ : Unit, _ := fun _ => hz
        have hf' : (((V.fin r2.2.1 r2.2.2 : Nat) : Int) != 0) = true := by simp; omega
        generalize V.fin r2.2.1 r2.2.2 = ff at hf'
        clear hz ht P3 hf
        go_wp2_with (refine wpList_store_row rfl 24 (.tmp 2) (.tmp 49) rfl g (sg 0 0 0 0 ⟨#[]⟩ ⟨#[]⟩).toArray rfl rfl 24 _ hA8 (by kernel_rfl) (by kernel_rfl) (by simp [Value.oneCell']) ?_)
        exact bodyPost_ret (results_row_tmp rfl _ _ g 24 (sg 0 0 0 0 ⟨#[]⟩ ⟨#[]⟩).toArray (0, 0) _ rfl (setRow_heap _ _ _ _ _ _ hA8) Try.underlying24 rfl (by kernel_rfl)) rfl ⟨by rw [Hz ()]; rfl, Dg.Below.setRow _ hB8 (by omega)⟩
    · have hz := dec_len (L s) h4
      have h4' : ((((V.getInts (L s)).1.length : Nat) : Int) != 4) = true := by simp; omega
      generalize (V.getInts (L s)).1.length = nn at h4'
      generalize (V.getInts (L s)).2.1 = pp
      rw [he]
      go_wp2_with (refine wpList_store_row rfl 24 (.tmp 2) (.tmp 22) rfl g (sg 0 0 0 0 ⟨#[]⟩ ⟨#[]⟩).toArray rfl rfl 24 _ hA2 (by kernel_rfl) (by kernel_rfl) (by simp [Value.oneCell']) ?_)
      exact bodyPost_ret (results_row_tmp rfl _ _ g 24 (sg 0 0 0 0 ⟨#[]⟩ ⟨#[]⟩).toArray (0, 0) _ rfl (setRow_heap _ _ _ _ _ _ hA2) Try.underlying24 rfl (by kernel_rfl)) rfl ⟨by rw [hz]; rfl, Dg.Below.setRow _ hBw (by omega)⟩
  · have hz := dec_err (L s) he
    have he' : ((((V.getInts (L s)).2.2 : Nat) : Int) != 0) = true := by simp; omega
    generalize (V.getInts (L s)).1.length = nn
    generalize (V.getInts (L s)).2.1 = pp
    generalize (V.getInts (L s)).2.2 = ee at he'
    go_wp2_with (refine wpList_store_row rfl 24 (.tmp 2) (.tmp 22) rfl g (sg 0 0 0 0 ⟨#[]⟩ ⟨#[]⟩).toArray rfl rfl 24 _ hA2 (by kernel_rfl) (by kernel_rfl) (by simp [Value.oneCell']) ?_)
    exact bodyPost_ret (results_row_tmp rfl _ _ g 24 (sg 0 0 0 0 ⟨#[]⟩ ⟨#[]⟩).toArray (0, 0) _ rfl (setRow_heap _ _ _ _ _ _ hA2) Try.underlying24 rfl (by kernel_rfl)) rfl ⟨by rw [hz]; rfl, Dg.Below.setRow _ hBw (by omega)⟩

end Go.Proofs.Ytkabkcokklgfoaa
