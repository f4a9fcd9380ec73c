/-
  The reference's reading of a signed statement.
-/
import Derived.Test.YtkabkcokklgfoaaDecode
set_option linter.unusedVariables false
namespace Go.Proofs.Ytkabkcokklgfoaa
open Go.RowKit
open Go.Proofs.Ytkabkcokklgfoaa.Dg (region_tail)

set_option maxRecDepth 100000 in
set_option maxHeartbeats 2000000 in
theorem refDecode_any (s : ByteArray) (w : World) (hs : s.size ≤ 1000000) :
    Calls Try.prog 7 #[.string s] w fun e w' => e = .returned (dval (dec (L s))) ∧ Below w.heap.size w w' := by
  have hgb := V.getListOf_bound V.getInt V.getInt_part (L s)
  have hll : (L s).length = s.size := Array.length_toList
  go_enter Try.func7, Try.ntmps7
  go_upto_region 1 with fail
  generalize hw1 : w.alloc _ = w1
  have hA : Blk w.heap.size (sg 0 0 0 0 ⟨#[]⟩ ⟨#[]⟩) 24 w1 := by rw [← hw1]; exact Blk.new _ _ w
  have hB : Below w.heap.size w w1 := by rw [← hw1]; exact (Below.refl _ w).alloc (Nat.le_refl _) _
  clear hw1
  obtain ⟨g, hg⟩ : ∃ g, w.heap.size = g := ⟨_, rfl⟩
  rw [hg] at hA ⊢
  go_wp2_with fail
  refine (refGetInts_any s w1 (by omega)).mono ?_
  rintro e w2 ⟨vv, rfl, ho, hB2⟩
  have hA2 := hA.keep hB2
  have hBw := hB.trans (hB2.mono hB.size)
  clear hA hB hB2
  obtain ⟨ao, cap, rfl, hc⟩ := ownsI_cells ho
  by_cases he : (V.getInts (L s)).2.2 = 0
  · by_cases h4 : (V.getInts (L s)).1.length = 4
    · obtain ⟨a, k, v, n, p, h⟩ := four_of (L s) he h4
      have hz := dec_four (L s) a k v n p h
      have e1 : (V.getInts (L s)).1 = [a, k, v, n] := by rw [h]
      have e2 : (V.getInts (L s)).2.1 = p := by rw [h]
      have hp : p ≤ (L s).length := by
        have h1 := (hgb.2.1 he).2.1
        rw [show V.getListOf V.getInt (L s) = ([a, k, v, n], p, 0) from h] at h1
        exact h1
      have hps : (p : Int) ≤ s.size := by omega
      rw [h4, e1] at hc
      obtain ⟨b, off, rfl, c0⟩ := hc 0 (by omega)
      have cl : ∀ i, i < 4 → w2.cell? ⟨b, off + i, none⟩ = some (intAt [a, k, v, n] i) := fun i hi => by
        obtain ⟨b', off', e, h1⟩ := hc i hi
        injection e with e
        injection e with e1 e2
        subst e1 e2
        exact h1
      have c0 : w2.cell? ⟨b, off, none⟩ = some (.int .i64 a) := cl 0 (by omega)
      have c1 : w2.cell? ⟨b, off + 1, none⟩ = some (.int .i64 k) := cl 1 (by omega)
      have c2 : w2.cell? ⟨b, off + 2, none⟩ = some (.int .i64 v) := cl 2 (by omega)
      have c3 : w2.cell? ⟨b, off + 3, none⟩ = some (.int .i64 n) := cl 3 (by omega)
      rw [h4, e2, he]
      have P1 := refGetString_any (s.extract p s.size) w2 (by rw [ByteArray.size_extract]; omega)
      rw [L_from s p] at P1
      have hpt := V.getStr_part ((L s).drop p)
      have t1 := V.two_err1 ((L s).drop p)
      have t2 := V.two_err2 ((L s).drop p)
      have t3 := V.two_end ((L s).drop p)
      obtain ⟨⟨x, q, f⟩, hr1⟩ : ∃ r, V.getStr ((L s).drop p) = r := ⟨_, rfl⟩
      rw [hr1] at P1 hpt t1
      clear cl hc ho hgb h e1 e2 he h4
      by_cases hf : f = 0
      · subst hf
        have hq : q ≤ ((L s).drop p).length := (hpt.2 rfl).2
        rw [List.length_drop] at hq
        have hpq : ((p : Int) + q) ≤ s.size := by omega
        have hpq2 : ((p + q : Nat) : Int) ≤ s.size := by omega
        have P2 := refGetString_any (s.extract (p + q) s.size) w2 (by rw [ByteArray.size_extract]; omega)
        rw [L_from s (p + q), ← List.drop_drop] at P2
        have hpt2 := V.getStr_part (((L s).drop p).drop q)
        have t2 := t2 x q hr1
        obtain ⟨⟨y, r, f2⟩, hr2⟩ : ∃ r, V.getStr (((L s).drop p).drop q) = r := ⟨_, rfl⟩
        rw [hr2] at P2 hpt2 t2
        go_wp2_with fail
        refine P1.mono ?_
        rintro e w3 ⟨rfl, rfl⟩
        go_wp2_with fail
        refine P2.mono ?_
        rintro e w3 ⟨rfl, rfl⟩
        by_cases hf2 : f2 = 0
        · subst hf2
          have hr : r ≤ (((L s).drop p).drop q).length := (hpt2.2 rfl).2
          rw [List.length_drop, List.length_drop] at hr
          have ht := t3 x y q r hr1 hr2
          by_cases hend : p + q + r = s.size
          · rw [if_pos (List.drop_eq_nil_of_le (by rw [List.length_drop, List.length_drop]; omega))] at ht
            rw [ht] at hz
            have hbe : (((p : Int) + q + r) != s.size) = false := by simp; omega
            have Hz : ∀ _ : Unit, _ := fun _ => hz
            clear hz ht t1 t2 t3 hr1 hr2 P1 P2 hpt hpt2
            go_upto_region 10 with fail
            refine region_tail 15 (by kernel_rfl) (by kernel_rfl) ?_
            simp only [List.take_succ_cons, List.take_zero, List.drop_succ_cons, List.drop_zero]
            repeat (first | go_big_quiet_skip | (go_big_quiet_want; go_big_quiet_op; first | go_big_quiet_on | (apply Exists.intro; refine And.intro ?_ ?_; (focus (fail)); go_big_quiet_on)))
            refine wpQuiet_nil ?_
            go_wp2_with (refine wpList_store_row rfl 24 (.tmp 2) (.tmp 73) rfl g (sg a k v n (S x) (S y)).toArray rfl rfl 24 _ (show w2.drew.heap[g]? = _ from hA2) (by kernel_rfl) (by kernel_rfl) (by simp [Value.oneCell']) ?_)
            exact bodyPost_ret (results_row_tmp rfl _ _ g 24 (sg a k v n (S x) (S y)).toArray (0, 0) _ rfl (setRow_heap _ _ _ _ _ _ (show w2.drew.heap[g]? = _ from hA2)) Try.underlying24 rfl (by kernel_rfl)) rfl ⟨by rw [Hz ()]; rfl, Dg.Below.setRow _ hBw.drew (by omega)⟩
          · rw [if_neg (fun h0 => by have h1 := congrArg List.length h0; rw [List.length_drop, List.length_drop, List.length_drop, List.length_nil] at h1; omega)] at ht
            rw [ht] at hz
            have hbe : (((p : Int) + q + r) != s.size) = true := by simp; omega
            have Hz : ∀ _ : Unit, _ := fun _ => hz
            clear hz ht t1 t2 t3 hr1 hr2 P1 P2 hpt hpt2
            go_wp2_with (refine wpList_store_row rfl 24 (.tmp 2) (.tmp 58) rfl g (sg 0 0 0 0 ⟨#[]⟩ ⟨#[]⟩).toArray rfl rfl 24 _ hA2 (by kernel_rfl) (by kernel_rfl) (by simp [Value.oneCell']) ?_)
            exact bodyPost_ret (results_row_tmp rfl _ _ g 24 (sg 0 0 0 0 ⟨#[]⟩ ⟨#[]⟩).toArray (0, 0) _ rfl (setRow_heap _ _ _ _ _ _ hA2) Try.underlying24 rfl (by kernel_rfl)) rfl ⟨by rw [Hz ()]; rfl, Dg.Below.setRow _ hBw (by omega)⟩
        · have hz2 := t2 hf2
          rw [hz2] at hz
          have hf' : ((f2 : Int) != 0) = true := by simp; omega
          have Hz : ∀ _ : Unit, _ := fun _ => hz
          clear hz hz2 t1 t2 t3 hr1 hr2 P1 P2 hpt hpt2
          go_wp2_with (refine wpList_store_row rfl 24 (.tmp 2) (.tmp 58) rfl g (sg 0 0 0 0 ⟨#[]⟩ ⟨#[]⟩).toArray rfl rfl 24 _ hA2 (by kernel_rfl) (by kernel_rfl) (by simp [Value.oneCell']) ?_)
          exact bodyPost_ret (results_row_tmp rfl _ _ g 24 (sg 0 0 0 0 ⟨#[]⟩ ⟨#[]⟩).toArray (0, 0) _ rfl (setRow_heap _ _ _ _ _ _ hA2) Try.underlying24 rfl (by kernel_rfl)) rfl ⟨by rw [Hz ()]; rfl, Dg.Below.setRow _ hBw (by omega)⟩
      · have hz2 := t1 hf
        rw [hz2] at hz
        have hf' : ((f : Int) != 0) = true := by simp; omega
        have Hz : ∀ _ : Unit, _ := fun _ => hz
        clear hz hz2 t1 t2 t3 hr1 hpt
        go_wp2_with fail
        refine P1.mono ?_
        rintro e w3 ⟨rfl, rfl⟩
        go_wp2_with (refine wpList_store_row rfl 24 (.tmp 2) (.tmp 35) rfl g (sg 0 0 0 0 ⟨#[]⟩ ⟨#[]⟩).toArray rfl rfl 24 _ hA2 (by kernel_rfl) (by kernel_rfl) (by simp [Value.oneCell']) ?_)
        exact bodyPost_ret (results_row_tmp rfl _ _ g 24 (sg 0 0 0 0 ⟨#[]⟩ ⟨#[]⟩).toArray (0, 0) _ rfl (setRow_heap _ _ _ _ _ _ hA2) Try.underlying24 rfl (by kernel_rfl)) rfl ⟨by rw [Hz ()]; rfl, Dg.Below.setRow _ hBw (by omega)⟩
    · have hz := dec_len (L s) h4
      have h4' : ((((V.getInts (L s)).1.length : Nat) : Int) != 4) = true := by simp; omega
      generalize (V.getInts (L s)).1.length = nn at h4'
      generalize (V.getInts (L s)).2.1 = pp
      rw [he]
      go_wp2_with (refine wpList_store_row rfl 24 (.tmp 2) (.tmp 24) rfl g (sg 0 0 0 0 ⟨#[]⟩ ⟨#[]⟩).toArray rfl rfl 24 _ hA2 (by kernel_rfl) (by kernel_rfl) (by simp [Value.oneCell']) ?_)
      exact bodyPost_ret (results_row_tmp rfl _ _ g 24 (sg 0 0 0 0 ⟨#[]⟩ ⟨#[]⟩).toArray (0, 0) _ rfl (setRow_heap _ _ _ _ _ _ hA2) Try.underlying24 rfl (by kernel_rfl)) rfl ⟨by rw [hz]; rfl, Dg.Below.setRow _ hBw (by omega)⟩
  · have hz := dec_err (L s) he
    have he' : ((((V.getInts (L s)).2.2 : Nat) : Int) != 0) = true := by simp; omega
    generalize (V.getInts (L s)).1.length = nn
    generalize (V.getInts (L s)).2.1 = pp
    generalize (V.getInts (L s)).2.2 = ee at he'
    go_wp2_with (refine wpList_store_row rfl 24 (.tmp 2) (.tmp 24) rfl g (sg 0 0 0 0 ⟨#[]⟩ ⟨#[]⟩).toArray rfl rfl 24 _ hA2 (by kernel_rfl) (by kernel_rfl) (by simp [Value.oneCell']) ?_)
    exact bodyPost_ret (results_row_tmp rfl _ _ g 24 (sg 0 0 0 0 ⟨#[]⟩ ⟨#[]⟩).toArray (0, 0) _ rfl (setRow_heap _ _ _ _ _ _ hA2) Try.underlying24 rfl (by kernel_rfl)) rfl ⟨by rw [hz]; rfl, Dg.Below.setRow _ hBw (by omega)⟩

end Go.Proofs.Ytkabkcokklgfoaa
