/-
  The minimal transversals of a family.
-/
import Derived.Test.YtjjmnpgbcgkcpaaDoorTrans
set_option linter.unusedVariables false
namespace Go.Proofs.YtjjmnpgbcgkcpaaDoor
open Go.RowKit Go.Shelf
attribute [local go_sem] Oper.semAt_some

set_option maxRecDepth 100000 in
set_option maxHeartbeats 400000 in
theorem dual_in (ao : Option Addr) (cap : Nat) (f : List V) (w : World) (hN : Sets w (.slice ao f.length cap) f) (hg : T.goodF f = true) (hsup : (T.support f).toNat < 512) (hT : Tab w) (h0 : 0 < w.heap.size) (hlen : (T.famF (T.hits f) (T.subsets (T.support f))).length < 400) (n : Nat) (hn : 3 ≤ n) :
    CallsIn Fence.wide n Tryd.prog 19 #[.slice ao f.length cap] w fun e w' => ∃ v, e = .returned (.tuple #[v, .int .i64 0]) ∧ OwnV w.heap.size v (T.famF (T.hits f) (T.subsets (T.support f))) w' ∧ Below w.heap.size w w' := by
  have Hlen : ∀ _ : Unit, _ := fun _ => hlen
  have Hsup : ∀ _ : Unit, _ := fun _ => hsup
  clear hlen hsup
  have hdd : ∀ k : Nat, (Fence.wide.depth.isSome = true → 1 ≤ k) := fun k h => by cases h
  refine callsIn_of_wp_marks Tryd.func19 rfl trivial ?_ rfl
  simp only [Tryd.ntmps19, List.size_toArray, List.length_cons, List.length_nil, Nat.reduceAdd, Nat.reduceSub, Array.replicate_succ, Array.replicate_zero, List.push_toArray, List.append_toArray, List.nil_append, List.cons_append]
  obtain ⟨w1, hw1⟩ : ∃ w1, ((w.alloc (.cells #[.slice ao f.length cap] 28)).alloc (.cells #[.slice none 0 0] 28)).alloc (.cells #[.int .i64 0] 25) = w1 := ⟨_, rfl⟩
  have X1 : Blk w.heap.size [.slice ao f.length cap] 28 w1 := by rw [← hw1]; exact ((Blk.new _ _ w).alloc _).alloc _
  have R1 : Blk (w.heap.size + 1) [.slice none 0 0] 28 w1 := by
    rw [← hw1]
    have h := Blk.new [.slice none 0 0] 28 (w.alloc (.cells #[.slice ao f.length cap] 28))
    rw [World.size_alloc] at h
    exact h.alloc _
  have E1 : Blk (w.heap.size + 1 + 1) [.int .i64 0] 25 w1 := by
    rw [← hw1]
    have h := Blk.new [.int .i64 0] 25 ((w.alloc (.cells #[.slice ao f.length cap] 28)).alloc (.cells #[.slice none 0 0] 28))
    rw [World.size_alloc, World.size_alloc] at h
    exact h
  have B1 : Below w.heap.size w w1 := by rw [← hw1]; exact (((Below.refl _ w).alloc (Nat.le_refl _) _).alloc (by simp) _).alloc (by simp; omega) _
  have hV := famValid_any _ f w1 (hN.keep B1) hg
  have c0 := X1.cell 0
  simp only [List.getElem?_cons_zero] at c0
  gi_wp2_with (refine ⟨trivial, hdd _, ?_⟩; first
    | (gi_at_call 24; refine (callsIn_wide.2 hV).mono ?_; clear hV hw1 c0; rintro e w2 ⟨rfl, hB2⟩; have o1 : w.heap.size + 1 + 1 < w2.heap.size := Nat.lt_of_lt_of_le E1.lt hB2.size; have X2 := (X1.keep hB2).alloc (.cells #[.slice none 0 0] 28); have R2 := (R1.keep hB2).alloc (.cells #[.slice none 0 0] 28); have E2 := (E1.keep hB2).alloc (.cells #[.slice none 0 0] 28); have O2 := Blk.new [.slice none 0 0] 28 w2; have B2 := (B1.trans (hB2.mono B1.size)).alloc (Nat.le_trans B1.size hB2.size) (.cells #[.slice none 0 0] 28); have c0 := X2.cell 0; simp only [List.getElem?_cons_zero] at c0; have hS := support_any _ f (w2.alloc (.cells #[.slice none 0 0] 28)) (hN.keep B2); clear X1 R1 E1 B1 hB2)
    | (gi_at_call 25; refine (callsIn_wide.2 hS).mono ?_; clear hS c0; rintro e w3 ⟨rfl, hw3⟩; rw [hw3]; clear hw3 w3)
    | (gi_at_call 15; refine (callsIn_wide.2 (subsets_any _ _)).mono ?_; rintro e w4 ⟨rfl, rfl⟩))
  have X4 := X2.alloc (.cells #[.int .u16 (M (T.support f))] 33)
  have R4 := R2.alloc (.cells #[.int .u16 (M (T.support f))] 33)
  have E4 := E2.alloc (.cells #[.int .u16 (M (T.support f))] 33)
  have O4 := O2.alloc (.cells #[.int .u16 (M (T.support f))] 33)
  have S4 := Blk.new [.int .u16 (M (T.support f))] 33 (w2.alloc (.cells #[.slice none 0 0] 28))
  have B4 := B2.alloc B2.size (.cells #[.int .u16 (M (T.support f))] 33)
  have hsz0 : ((w2.alloc (.cells #[.slice none 0 0] 28)).alloc (.cells #[.int .u16 (M (T.support f))] 33)).heap.size = w2.heap.size + 1 + 1 := by rw [World.size_alloc, World.size_alloc]
  rw [World.size_alloc] at S4
  clear X2 R2 E2 O2 B2
  generalize hW0 : World.alloc (w2.alloc _) _ = W0 at X4 R4 E4 O4 S4 B4 hsz0 ⊢
  clear hW0
  generalize w2.heap.size = Bo at O4 o1 S4 hsz0 ⊢
  obtain ⟨bs, hbs⟩ : ∃ bs, Bo + 1 = bs := ⟨_, rfl⟩
  rw [hbs] at S4 hsz0 ⊢
  have o2 : Bo < bs := by omega
  clear hbs
  have hT4 := hT.keep B4
  have hst := subs_stops (T.support f) (Hsup ()) bs (n - 1) W0 S4.lt (S4.cell 0) hT4
  clear S4 hT4
  refine wpIn_rangeFunc_ownF rfl (by omega : 1 ≤ n) (gf := 30) (lb := #[.pointer (some ⟨bs, 0, none⟩)]) rfl trivial (enters_of Tryd.func30 (by kernel_rfl) rfl)
    hst (fun h k => h.trans k) (KpS.put (by omega) (by omega)) (Below.refl _ _) (fun _ => rfl)
    (fun pre W => (T.famF (T.hits f) pre).length ≤ 400 ∧ (∃ v, Boxed W Bo 28 v ∧ W.ownsRow (bs + 1) 33 1 v (T.famF (T.hits f) pre).length (vls (T.famF (T.hits f) pre)) ∧ True) ∧ Blk w.heap.size [.slice ao f.length cap] 28 W ∧
      Blk (w.heap.size + 1) [.slice none 0 0] 28 W ∧ Blk (w.heap.size + 1 + 1) [.int .i64 0] 25 W ∧ bs + 1 ≤ W.heap.size ∧ Below w.heap.size w W)
    (fun _ pre _ => 400 < (T.famF (T.hits f) pre).length)
    (OwnFrom.and (ownFrom_pure _ (fun pre => (T.famF (T.hits f) pre).length ≤ 400)) (OwnFrom.and (Own.from (holdsRow_own (bs + 1) Bo 28 33 1 (fun pre => (T.famF (T.hits f) pre).length) (fun pre => vls (T.famF (T.hits f) pre)) (fun _ _ => True)) _) (OwnFrom.and (blk_own _ _ _ _) (OwnFrom.and (blk_own _ _ _ _) (OwnFrom.and (blk_own _ _ _ _) (OwnFrom.and (fun _ _ _ _ hs hg _ => Nat.le_trans hs hg.size) (ownFrom_below (Nat.le_refl _) (by omega))))))))
    (fun _ => ownFrom_pure _ (fun pre => 400 < (T.famF (T.hits f) pre).length))
    ⟨Nat.zero_le _, ⟨_, O4, World.ownsRow_nil _ _ _ _, trivial⟩, X4, R4, E4, by omega, B4⟩
    (fun y => { tmps := #[.slice ao f.length cap, .pointer (some ⟨w.heap.size, 0, none⟩), .pointer (some ⟨w.heap.size + 1, 0, none⟩), .pointer (some ⟨w.heap.size + 1 + 1, 0, none⟩), .int .i64 0, .pointer (some ⟨Bo, 0, none⟩), .int .u16 (M y), .slice ao f.length cap, .int .i64 0, .int .i64 0, .bool false, undef, .slice ao f.length cap, .int .u16 (M (T.support f)), .func (.func 30) #[] #[.pointer (some ⟨bs, 0, none⟩)], .int .u16 (M y), undef, undef, undef, undef, undef, undef, undef, undef, undef, undef, undef, undef, undef, undef, undef, undef, undef], defers := [] }) ?assign ?body ?done ?stop
  case assign =>
    intro l y W K hK
    gi_wp2
    exact hK
  case body =>
    rintro l pre y W ⟨h400, ⟨v, hv, hrow, _⟩, hX, hR, hE, hlW, hB⟩ _
    have hsn := T.famF_snoc (T.hits f) pre y
    have hNW := hN.keep hB
    have c1 := hX.cell 0
    have c5 := hv.cell
    simp only [List.getElem?_cons_zero] at c1
    generalize T.famF (T.hits f) pre = out at h400 hrow hsn
    unfold T.famStep at hsn
    have hS : ∀ _ : Unit, _ := fun _ => hsn
    clear hsn Hlen Hsup hst X4 R4 E4 O4 B4 hT hg
    obtain ⟨oa, oc, rfl⟩ := owns_slice hrow
    have hA := accepts_any _ out y W (OwnV.sets hrow (by omega))
    cases ha : T.accepts out y with
    | true =>
      have hS2 : ∀ _ : Unit, T.famF (T.hits f) (pre ++ [y]) = out := fun _ => by rw [hS (), ha]; simp
      rw [ha] at hA
      clear hS ha
      gi_wp2_with (refine ⟨trivial, hdd _, ?_⟩; gi_at_call 18; refine (CallsIn.inRound l (callsIn_wide.2 hA)).mono ?_; clear hA; rintro e W2 ⟨rfl, hB2⟩)
      refine ⟨trivial, ?_⟩
      gi_wp2
      exact ⟨keeps_below hB2, KpS.of bs hB2, by rw [hS2 ()]; exact h400, by rw [hS2 ()]; exact ⟨_, Blk.keep hv hB2, own_keep hrow hB2, trivial⟩, hX.keep hB2, hR.keep hB2, hE.keep hB2, Nat.le_trans hlW hB2.size, hB.trans (hB2.mono hB.size)⟩
    | false =>
      rw [ha] at hA
      have hH0 := fun W2 hW2 => hits_any _ f y W2 (hNW.keep (w' := W2) hW2)
      cases hh : T.hits f y with
      | false =>
        have hS2 : ∀ _ : Unit, T.famF (T.hits f) (pre ++ [y]) = out := fun _ => by rw [hS (), ha, hh]; rfl
        rw [hh] at hH0
        clear hS ha hh
        gi_wp2_with (refine ⟨trivial, hdd _, ?_⟩; first
          | (gi_at_call 18; refine (CallsIn.inRound l (callsIn_wide.2 hA)).mono ?_; clear hA; rintro e W2 ⟨rfl, hB2⟩; have hX2 := hX.keep hB2; have c2 := hX2.cell 0; simp only [List.getElem?_cons_zero] at c2; have hH := hH0 W2 hB2; clear hH0)
          | (gi_at_call 23; refine (CallsIn.inRound l (callsIn_wide.2 hH)).mono ?_; clear hH; rintro e W3 ⟨rfl, hB3⟩))
        have hB4 := hB2.trans (hB3.mono hB2.size)
        exact ⟨keeps_below hB4, KpS.of bs hB4, by rw [hS2 ()]; exact h400, by rw [hS2 ()]; exact ⟨_, Blk.keep hv hB4, own_keep hrow hB4, trivial⟩, hX.keep hB4, hR.keep hB4, hE.keep hB4, Nat.le_trans hlW hB4.size, hB.trans (hB4.mono hB.size)⟩
      | true =>
        have hS2 : ∀ _ : Unit, T.famF (T.hits f) (pre ++ [y]) = out ++ [y] := fun _ => by rw [hS (), ha, hh]; rfl
        rw [hh] at hH0
        clear hS ha hh
        obtain ⟨i0, hi, hz0, hz1, hz2⟩ := info_parts infoSet
        have hsep : ∀ W3 : World, Below W.heap.size W W3 → bs + 1 ≤ W3.heap.size := fun W3 h => Nat.le_trans hlW h.size
        have fin : ∀ (W3 w5 : World) (g' cap' : Nat), Below W.heap.size W W3 → w5.ownsRow (bs + 1) 33 1 (.slice (some ⟨g', 0, none⟩) (out.length + 1) cap') (out.length + 1) (vls out ++ [.int .u16 (M y)]) →
            (W3.alloc (.cells #[.int .u16 (M y)] 33)).grownBy w5 (Value.slice oa out.length oc).ownBlock →
            KeepsOthers W (w5.setCell ⟨Bo, 0, none⟩ (.slice (some ⟨g', 0, none⟩) (out.length + 1) cap')) ∧ KpS bs W (w5.setCell ⟨Bo, 0, none⟩ (.slice (some ⟨g', 0, none⟩) (out.length + 1) cap')) ∧
            Boxed w5 Bo 28 (.slice oa out.length oc) ∧
            (∃ v, Boxed (w5.setCell ⟨Bo, 0, none⟩ (.slice (some ⟨g', 0, none⟩) (out.length + 1) cap')) Bo 28 v ∧ (w5.setCell ⟨Bo, 0, none⟩ (.slice (some ⟨g', 0, none⟩) (out.length + 1) cap')).ownsRow (bs + 1) 33 1 v (T.famF (T.hits f) (pre ++ [y])).length (vls (T.famF (T.hits f) (pre ++ [y]))) ∧ True) ∧
            Blk w.heap.size [.slice ao f.length cap] 28 (w5.setCell ⟨Bo, 0, none⟩ (.slice (some ⟨g', 0, none⟩) (out.length + 1) cap')) ∧ Blk (w.heap.size + 1) [.slice none 0 0] 28 (w5.setCell ⟨Bo, 0, none⟩ (.slice (some ⟨g', 0, none⟩) (out.length + 1) cap')) ∧ Blk (w.heap.size + 1 + 1) [.int .i64 0] 25 (w5.setCell ⟨Bo, 0, none⟩ (.slice (some ⟨g', 0, none⟩) (out.length + 1) cap')) ∧
            bs + 1 ≤ (w5.setCell ⟨Bo, 0, none⟩ (.slice (some ⟨g', 0, none⟩) (out.length + 1) cap')).heap.size ∧ Below w.heap.size w (w5.setCell ⟨Bo, 0, none⟩ (.slice (some ⟨g', 0, none⟩) (out.length + 1) cap')) := by
          intro W3 w5 g' cap' hB4 hown' hgrow
          have hv3 := Blk.keep hv hB4
          have hrow3 := own_keep hrow hB4
          have hsz3 := hsep W3 hB4
          obtain ⟨hv5, hv6, hr6, hk6, hb6⟩ := Boxed.appended hv3 (by decide) (own_low hrow3 (show w.heap.size ≤ bs + 1 by omega)) (by omega) (show w.heap.size ≤ Bo by omega) (own_low hown' (show w.heap.size ≤ bs + 1 by omega)) hgrow
          have hg2 := grown_set w5 Bo 0 (.slice (some ⟨g', 0, none⟩) (out.length + 1) cap')
          have e1 : Blk Bo _ 28 w5 := hv5
          have hX5 := (((hX.keep hB4).alloc (.cells #[.int .u16 (M y)] 33)).grown hgrow (ne_row ((hX.keep hB4).alloc (.cells #[.int .u16 (M y)] 33)) (hrow3.alloc _) (by decide))).other (c := Bo) 0 (.slice (some ⟨g', 0, none⟩) (out.length + 1) cap') (by omega)
          have hR5 := (((hR.keep hB4).alloc (.cells #[.int .u16 (M y)] 33)).grown hgrow (ne_row ((hR.keep hB4).alloc (.cells #[.int .u16 (M y)] 33)) (hrow3.alloc _) (by decide))).other (c := Bo) 0 (.slice (some ⟨g', 0, none⟩) (out.length + 1) cap') (by omega)
          have hE5 := (((hE.keep hB4).alloc (.cells #[.int .u16 (M y)] 33)).grown hgrow (ne_row ((hE.keep hB4).alloc (.cells #[.int .u16 (M y)] 33)) (hrow3.alloc _) (by decide))).other (c := Bo) 0 (.slice (some ⟨g', 0, none⟩) (out.length + 1) cap') (by omega)
          have hK : KpS bs W3 (w5.setCell ⟨Bo, 0, none⟩ (.slice (some ⟨g', 0, none⟩) (out.length + 1) cap')) := by
            refine ((KpS.of bs (below_box W3 (.cells #[.int .u16 (M y)] 33))).trans (KpS.grown hgrow (fun g hg => ?_))).trans (KpS.grown hg2 (fun g hg => ?_))
            · obtain ⟨C, fr, T, q1, q2⟩ := own_typed (hrow3.alloc (.cells #[.int .u16 (M y)] 33)) g hg
              have q3 := (hrow3.lt g hg).1
              exact ⟨by omega, by omega, C, fr, T, q1, by rw [q2]; decide⟩
            · have hg := Option.some.inj hg
              subst hg
              exact ⟨by omega, by omega, _, _, _, hv5, by decide⟩
          refine ⟨(keeps_below hB4).trans hk6, (KpS.of bs hB4).trans hK, hv5, ⟨_, hv6, ?_, trivial⟩, hX5, hR5, hE5, Nat.le_trans hsz3 hK.size, (hB.trans (hB4.mono hB.size)).trans hb6⟩
          rw [hS2 (), List.length_append]
          unfold vls
          rw [List.map_append]
          exact World.ownsRow.kept hown' hg2 (not_row e1 hown' (by decide))
        by_cases h4 : out.length = 400
        · have h5 : decide (400 < (out.length : Int) + 1) = true := decide_eq_true (by omega)
          have H6 : ∀ _ : Unit, 400 < (T.famF (T.hits f) (pre ++ [y])).length := fun _ => by rw [hS2 (), List.length_append, h4]; simp
          have h6 : out.length ≤ 400 := by omega
          clear h4
          gi_wp2_with (first
            | (refine ⟨trivial, hdd _, ?_⟩; gi_at_call 18; refine (CallsIn.inRound l (callsIn_wide.2 hA)).mono ?_; clear hA; rintro e W2 ⟨rfl, hB2⟩; have hX2 := hX.keep hB2; have c2 := hX2.cell 0; simp only [List.getElem?_cons_zero] at c2; have hH := hH0 W2 hB2; clear hH0)
            | (refine ⟨trivial, hdd _, ?_⟩; gi_at_call 23; refine (CallsIn.inRound l (callsIn_wide.2 hH)).mono ?_; clear hH; rintro e W3 ⟨rfl, hB3⟩; have hB4 := hB2.trans (hB3.mono hB2.size); have hv3 := Blk.keep hv hB4; have c6 := hv3.cell 0; have hrow3 := own_keep hrow hB4; have hsz3 := hsep W3 hB4; simp only [List.getElem?_cons_zero] at c6; clear hX2 c2 hB2 hB3)
            | (gi_at_builtin; refine wpListIn_append_own _ rfl _ _ 28 rfl (bs + 1) 33 i0 (.int .u16 0) 1 2 Tryd.underlying28 hi hz0 hz1 hz2 rfl (by decide) _ _ _ rfl (hrow3.alloc _) ⟨W3.heap.size, 0, none⟩ 1 1 [.int .u16 (M y)] rfl rfl (cell_one_new _ _ _) (by simp [Value.oneCell']) (by unfold maxLen; omega) (by omega) (by simp; omega) ?_; intro v' w5 hown' hgrow _; obtain ⟨g', cap', rfl⟩ := ownsRow_succ hown'; obtain ⟨hk, hK, hv5, hv6, hX5, hR5, hE5, hl5, hB5⟩ := fin W3 w5 g' cap' hB4 hown' hgrow; have c7 := hv5.cell; have f7 := hv5.frozen; have c8 : (w5.setCell ⟨Bo, 0, none⟩ (.slice (some ⟨g', 0, none⟩) (out.length + 1) cap')).cell? ⟨Bo, 0, none⟩ = some (.slice (some ⟨g', 0, none⟩) (out.length + 1) cap') := (Boxed.set _ hv5).cell; have c9 := hR5.cell 0; have f9 := hR5.free 0; have c10 := hE5.cell 0; have f10 := hE5.free 0; simp only [List.getElem?_cons_zero] at c9 c10))
          exact ⟨(hk.trans (KeepsOthers.setCell _ _ _)).trans (KeepsOthers.setCell _ _ _), H6 ()⟩
        · have h5 : decide (400 < (out.length : Int) + 1) = false := decide_eq_false (by omega)
          have h6 : out.length + 1 ≤ 400 := by omega
          clear h4
          gi_wp2_with (first
            | (refine ⟨trivial, hdd _, ?_⟩; gi_at_call 18; refine (CallsIn.inRound l (callsIn_wide.2 hA)).mono ?_; clear hA; rintro e W2 ⟨rfl, hB2⟩; have hX2 := hX.keep hB2; have c2 := hX2.cell 0; simp only [List.getElem?_cons_zero] at c2; have hH := hH0 W2 hB2; clear hH0)
            | (refine ⟨trivial, hdd _, ?_⟩; gi_at_call 23; refine (CallsIn.inRound l (callsIn_wide.2 hH)).mono ?_; clear hH; rintro e W3 ⟨rfl, hB3⟩; have hB4 := hB2.trans (hB3.mono hB2.size); have hv3 := Blk.keep hv hB4; have c6 := hv3.cell 0; have hrow3 := own_keep hrow hB4; have hsz3 := hsep W3 hB4; simp only [List.getElem?_cons_zero] at c6; clear hX2 c2 hB2 hB3)
            | (gi_at_builtin; refine wpListIn_append_own _ rfl _ _ 28 rfl (bs + 1) 33 i0 (.int .u16 0) 1 2 Tryd.underlying28 hi hz0 hz1 hz2 rfl (by decide) _ _ _ rfl (hrow3.alloc _) ⟨W3.heap.size, 0, none⟩ 1 1 [.int .u16 (M y)] rfl rfl (cell_one_new _ _ _) (by simp [Value.oneCell']) (by unfold maxLen; omega) (by omega) (by simp; omega) ?_; intro v' w5 hown' hgrow _; obtain ⟨g', cap', rfl⟩ := ownsRow_succ hown'; obtain ⟨hk, hK, hv5, hv6, hX5, hR5, hE5, hl5, hB5⟩ := fin W3 w5 g' cap' hB4 hown' hgrow; have c7 := hv5.cell; have f7 := hv5.frozen; have c8 : (w5.setCell ⟨Bo, 0, none⟩ (.slice (some ⟨g', 0, none⟩) (out.length + 1) cap')).cell? ⟨Bo, 0, none⟩ = some (.slice (some ⟨g', 0, none⟩) (out.length + 1) cap') := (Boxed.set _ hv5).cell))
          exact ⟨hk, hK, by rw [hS2 (), List.length_append]; exact h6, hv6, hX5, hR5, hE5, hl5, hB5⟩
  case done =>
    rintro D ys W hD rfl ⟨h400, ⟨v, hv, hrow, _⟩, hX, hR, hE, hlW, hB⟩ hK
    obtain ⟨out, hout⟩ : ∃ out, ∀ _ : Unit, T.famF (T.hits f) (T.subsets (T.support f)) = out := ⟨_, fun _ => rfl⟩
    rw [hout ()] at h400 hrow
    clear Hlen Hsup hst X4 R4 E4 O4 B4 hT hg hN hX
    obtain ⟨oa, oc, rfl⟩ := owns_slice hrow
    have c1 := hv.cell
    have c2 := hR.cell 0
    have f2 := hR.free 0
    have c3 := hE.cell 0
    have f3 := hE.free 0
    simp only [List.getElem?_cons_zero] at c2 c3
    gi_wp2
    clear c1 c2 c3 f2 f3
    have hR2 : Blk (w.heap.size + 1) [.slice oa out.length oc] 28 ((W.setCell ⟨w.heap.size + 1, 0, none⟩ (.slice oa out.length oc)).setCell ⟨w.heap.size + 1 + 1, 0, none⟩ (.int .i64 0)) := (hR.set 0 (.slice oa out.length oc)).other (c := w.heap.size + 1 + 1) 0 _ (by omega)
    have hE2 : Blk (w.heap.size + 1 + 1) [.int .i64 0] 25 ((W.setCell ⟨w.heap.size + 1, 0, none⟩ (.slice oa out.length oc)).setCell ⟨w.heap.size + 1 + 1, 0, none⟩ (.int .i64 0)) := (hE.other (c := w.heap.size + 1) 0 _ (by omega)).set 0 (.int .i64 0)
    have hr1 := World.ownsRow.kept (own_low hrow (show w.heap.size ≤ bs + 1 by omega)) (grown_set W (w.heap.size + 1) 0 (.slice oa out.length oc)) (not_row hR hrow (by decide))
    have hr2 := World.ownsRow.kept hr1 (grown_set _ (w.heap.size + 1 + 1) 0 (.int .i64 0)) (not_row (hE.other (c := w.heap.size + 1) 0 _ (by omega)) hr1 (by decide))
    have hK2 := (KeepsOthers.setCell (W.setCell ⟨w.heap.size + 1, 0, none⟩ (.slice oa out.length oc)) ⟨w.heap.size + 1 + 1, 0, none⟩ (.int .i64 0)).same D _ ((KeepsOthers.setCell W ⟨w.heap.size + 1, 0, none⟩ (.slice oa out.length oc)).same D _ hK rfl) rfl
    have hB2 := (hB.setCell (p := ⟨w.heap.size + 1, 0, none⟩) (Nat.le_succ _) (.slice oa out.length oc)).setCell (p := ⟨w.heap.size + 1 + 1, 0, none⟩) (by show w.heap.size ≤ w.heap.size + 1 + 1; omega) (.int .i64 0)
    generalize (W.setCell ⟨w.heap.size + 1, 0, none⟩ (.slice oa out.length oc)).setCell ⟨w.heap.size + 1 + 1, 0, none⟩ (.int .i64 0) = U at hR2 hE2 hr2 hK2 hB2 ⊢
    refine ⟨by simp, .inl ⟨_, _, rfl, run_takeDeferred hK2, ?_⟩⟩
    have hD1 : ∀ b, b < D → (U.putObj D (.deferred none)).heap[b]? = U.heap[b]? := fun b hb => World.putObj_heap_other (by omega)
    refine ⟨_, results_cell_cell rfl _ _ (w.heap.size + 1) (w.heap.size + 1 + 1) (.slice oa out.length oc) (.int .i64 0) _ _ rfl rfl Tryd.underlying28 rfl Tryd.underlying25 rfl
      ((World.cell?_of_block (hD1 _ (by show w.heap.size + 1 < D; omega))).trans (hR2.cell 0)) ((World.cell?_of_block (hD1 _ (by show w.heap.size + 1 + 1 < D; omega))).trans (hE2.cell 0)), ?_⟩
    rw [hout ()]
    exact ⟨_, rfl, ownsRow_putObj hr2 _ hK2 rfl, hB2.trans (belowK_b (w := W0) (by omega) U D _ _ hD hK2 rfl rfl)⟩
  case stop =>
    rintro D c pre W hD hpre h6 hK
    have h1 := (T.famF_prefix (T.hits f) _ _ hpre).length_le
    have h2 := Hlen ()
    omega
end Go.Proofs.YtjjmnpgbcgkcpaaDoor
