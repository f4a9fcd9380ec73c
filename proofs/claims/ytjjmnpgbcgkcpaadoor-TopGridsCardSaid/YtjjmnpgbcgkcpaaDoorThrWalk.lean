/-
  The threshold of some expressions: the program's walk.
-/
import Derived.Test.YtjjmnpgbcgkcpaaDoorThr
set_option linter.unusedVariables false
namespace Go.Proofs.YtjjmnpgbcgkcpaaDoor
open Go.RowKit

theorem node_at {g : Nat} {d : Nd} {kv : Value} {w : World} (h : Blk g (ndRow d kv) 59 w) :
    w.cell? ⟨g, 0, none⟩ = some (.int .i64 d.kind) ∧ w.cell? ⟨g, 1, none⟩ = some (.int .i64 d.server) ∧ w.cell? ⟨g, 2, none⟩ = some (.int .i64 d.need) ∧ w.cell? ⟨g, 3, none⟩ = some (.slice none 0 0) ∧ w.cell? ⟨g, 4, none⟩ = some kv :=
  ⟨h.cell 0, h.cell 1, h.cell 2, h.cell 3, h.cell 4⟩

set_option maxRecDepth 100000 in
set_option maxHeartbeats 400000 in
theorem threshold_any (need : Int) (v0 : Value) (l : List Ex) (w : World) (hv : ExsAt w v0 l) (hs : T.Small l) :
    Calls Tryd.prog 28 #[.int .i64 need, v0, .slice none 0 0] w fun e w' => ∃ nv, e = .returned (.agg #[nv, .int .i64 (T.thr need l).2]) ∧ NodesAt w' nv (T.thr need l).1 ∧ Below w.heap.size w w' := by
  obtain ⟨ao, cap0, rfl, hc⟩ := hv
  have hl100 := hs.1
  go_enter Tryd.func28, Tryd.ntmps28
  go_upto_region 3 with (go_at_call 40; refine (clone_nil _).mono ?_; rintro e w2 ⟨rfl, rfl⟩)
  generalize hw3 : World.alloc _ _ = w3
  have hI : TI w need [] [] (.slice none 0 0) (.slice none 0 0) w3 := by
    rw [← hw3]
    have e1 := Blk.new [.slice none 0 0, .int .i64 0] 24 w
    have e2 := Blk.new [.slice none 0 0, .int .i64 0] 24 (w.alloc (.cells #[.slice none 0 0, .int .i64 0] 24))
    have e3 := Blk.new (ndRow ⟨2, 0, need, []⟩ (.slice none 0 0)) 59 ((w.alloc (.cells #[.slice none 0 0, .int .i64 0] 24)).alloc (.cells #[.slice none 0 0, .int .i64 0] 24))
    rw [World.size_alloc] at e2 e3
    rw [World.size_alloc] at e3
    refine ⟨(e1.alloc _).alloc _, e2.alloc _, e3, OwnNodes.nil _ _, World.ownsRow_nil _ _ _ _, (fun p hp => by cases hp), (fun e => by cases e), ?_⟩
    exact (((Below.refl _ w).alloc (Nat.le_refl _) _).alloc (by simp) _).alloc (by simp; omega) _
  clear hw3
  rw [show w.heap.size + 1 + 1 = w.heap.size + 2 from rfl]
  have hfl := fun i => T.fold_len (l.take i).length (l.take i) rfl (fun x hx => (hs.2 x (List.mem_of_mem_take hx)).1)
  go_wp2_with fail
  go_loopw [21] (fun x wr => ∃ (i : Nat) (P : List (Nd × Value)) (nv kv : Value), x = .int .i64 (i : Int) ∧ i ≤ l.length ∧ P.map (·.1) = (T.fold (l.take i)).1 ∧ TI w need P (T.fold (l.take i)).2 nv kv wr) (fun x _ => l.length - (intOf x).toNat)
  case atStart => exact ⟨0, [], _, _, rfl, by omega, rfl, hI⟩
  case round =>
    clear hI
    obtain ⟨i, P, nv, kv, rfl, hi, hP, hI⟩ := hrel
    have hPl : P.length ≤ 10000 := by
      have h1 := (hfl i).1
      rw [← hP, List.length_map, List.length_take] at h1
      have := hs.1
      omega
    by_cases hlt : i < l.length
    · have hx0 := hs.2 l[i] (List.getElem_mem hlt)
      obtain ⟨b, xv, rfl, hr0, hN0⟩ := hc i l[i] (List.getElem?_eq_getElem hlt)
      have hfs : T.fold (l.take (i + 1)) = T.step (T.fold (l.take i)) l[i] := by rw [← T.fold_snoc, List.take_append_getElem hlt]
      have hfl2 := (hfl i).2
      generalize l[i] = x at hx0 hr0 hN0 hfs
      generalize T.fold (l.take i) = st at hP hI hfs hfl2
      clear hc hfl
      have hr := range_keep hr0 hI.below
      obtain ⟨xb, xcap, rfl, _⟩ := hN0.rd
      have hr : wr.rangeAt b (i * 2) [.slice (some ⟨xb, 0, none⟩) x.1.length xcap, .int .i64 x.2] := hr
      obtain ⟨ka, kcap, rfl⟩ := owns_slice hI.nodes.1
      have hPb : P.length = st.1.length := by rw [← hP, List.length_map]
      go_upto_region 5 with fail
      go_upto_region 6 with (refine wpList_load_mid rfl 24 (.tmp 23) rfl b (i * 2) rfl _ _ hr Tryd.underlying24 rfl (by kernel_rfl) ?_)
      clear hr0 hr
      generalize hw4 : wr.alloc _ = w4
      have hX : Blk wr.heap.size [.slice (some ⟨xb, 0, none⟩) x.1.length xcap, .int .i64 x.2] 24 w4 := by rw [← hw4]; exact Blk.new _ _ wr
      have hB4 : Below wr.heap.size wr w4 := by rw [← hw4]; exact below_box _ _
      clear hw4
      have hI4 := hI.keep hB4
      have xge : w.heap.size + 2 < wr.heap.size := hI.top.lt
      clear hI hB4
      generalize wr.heap.size = xp at hX xge ⊢
      have c1 := hI4.out.cell 0
      have c2 := hX.cell 0
      simp only [List.getElem?_cons_zero] at c1 c2
      go_upto_region 8 with fail
      clear c1 c2
      rename World => wq
      have hP0 : P.map (·.1) = st.1 ++ (x.1.take 0).map (T.shift st.1.length) := by rw [hP]; simp
      go_loopw [31] (fun y wr => ∃ (j : Nat) (P' : List (Nd × Value)) (nv' : Value), y = .int .i64 (j : Int) ∧ j ≤ x.1.length ∧ P'.map (·.1) = st.1 ++ (x.1.take j).map (T.shift st.1.length) ∧ TI w need P' st.2 nv' kv wr ∧ Blk xp [.slice (some ⟨xb, 0, none⟩) x.1.length xcap, .int .i64 x.2] 24 wr) (fun y _ => x.1.length - (intOf y).toNat)
      case atStart => exact ⟨0, P, _, rfl, by omega, hP0, hI4, hX⟩
      case round =>
        clear hI4 hX hP0 hP
        obtain ⟨j, P', nv', rfl, hj, hP', hI, hX⟩ := hrel
        by_cases hjl : j < x.1.length
        · have hd0 := hx0.2.2 x.1[j] (List.getElem_mem hjl)
          obtain ⟨_, _, hxe, hNr⟩ := (hN0.keep hI.below).rd
          have hxe := congrArg Value.ownBlock hxe
          have hxe := Option.some.inj hxe
          simp only at hxe
          subst hxe
          obtain ⟨kd, hrow, hkd⟩ := hNr j x.1[j] (List.getElem?_eq_getElem hjl)
          have htk : (x.1.take (j + 1)).map (T.shift st.1.length) = (x.1.take j).map (T.shift st.1.length) ++ [T.shift st.1.length x.1[j]] := by rw [← List.take_append_getElem hjl, List.map_append]; rfl
          generalize x.1[j] = d at hd0 hrow hkd htk
          clear hNr
          have hrow : wr.rangeAt xb (j * 5) [.int .i64 d.kind, .int .i64 d.server, .int .i64 d.need, .slice none 0 0, kd] := hrow
          obtain ⟨kda, kdc, rfl, _, _⟩ := id hkd
          go_upto_region 9 with fail
          go_upto_region 10 with (refine wpList_load_mid rfl 59 (.tmp 33) rfl xb (j * 5) rfl _ _ hrow Tryd.underlying59 rfl (by kernel_rfl) ?_)
          generalize hw5 : wr.alloc _ = w5
          have hQ : Blk wr.heap.size (ndRow d (.slice kda d.kids.length kdc)) 59 w5 := by rw [← hw5]; exact Blk.new _ _ wr
          have hB5 : Below wr.heap.size wr w5 := by rw [← hw5]; exact below_box _ _
          clear hw5 hrow
          obtain ⟨q, hq⟩ : ∃ q, wr.heap.size = q := ⟨_, rfl⟩
          rw [hq] at hQ hB5 ⊢
          have c3 := hQ.cell 3
          have f3 := hQ.free 3
          simp only [ndRow, List.getElem?_cons_succ, List.getElem?_cons_zero] at c3
          go_upto_region 11 with (go_at_call 40; refine (clone_nil _).mono ?_; rintro e w2 ⟨rfl, hw⟩; rw [hw]; clear hw w2)
          clear c3 f3
          generalize hw6 : w5.setCell _ _ = w6
          have hQ6 : Blk q (ndRow d (.slice kda d.kids.length kdc)) 59 w6 := by rw [← hw6]; exact hQ.set 3 _
          have hB6 : Below q wr w6 := by rw [← hw6]; exact hB5.setCell (p := ⟨q, 3, none⟩) (Nat.le_refl _) _
          have hkd6 := hkd.keep (w' := w6) (by rw [hq]; exact hB6)
          clear hw6 hQ hB5 hkd
          have c4 := hQ6.cell 4
          have f4 := hQ6.free 4
          simp only [ndRow, List.getElem?_cons_succ, List.getElem?_cons_zero] at c4
          go_upto_region 12 with (go_at_call 40; refine (clone_any _ d.kids _ hkd6 (by omega)).mono ?_; rintro e w7 ⟨v', rfl, hown7, hB7⟩; obtain ⟨vo, vc, rfl⟩ := owns_slice hown7; have hQ7 := hQ6.keep hB7; have c4' := hQ7.cell 4; have f4' := hQ7.free 4; simp only [ndRow, List.getElem?_cons_succ, List.getElem?_cons_zero] at c4')
          clear c4 f4
          generalize hw8 : w7.setCell _ _ = w8
          have hqg : q < w6.heap.size := hQ6.lt
          have hQ8 : Blk q (ndRow d (.slice vo d.kids.length vc)) 59 w8 := by rw [← hw8]; exact hQ7.set 4 _
          have hown8 : OwnsI q (.slice vo d.kids.length vc) d.kids w8 := by
            rw [← hw8]
            exact World.ownsRow.kept (own_low hown7 (by omega)) (grown_set w7 q 4 _) (not_row hQ7 hown7 (by decide))
          have hB8 : Below q wr w8 := by rw [← hw8]; exact (hB6.trans (hB7.mono (by omega))).setCell (p := ⟨q, 4, none⟩) (Nat.le_refl _) _
          clear hw8 hQ6 hB6 hkd6 hQ7 hown7 hB7 hqg c4' f4'
          have c4 := hQ8.cell 4
          simp only [ndRow, List.getElem?_cons_succ, List.getElem?_cons_zero] at c4
          go_upto_region 13 with fail
          clear c4
          have hbase : st.1.length ≤ 10000 := by omega
          obtain ⟨base, hbase2⟩ : ∃ base, st.1.length = base := ⟨_, rfl⟩
          have hK0 : OwnsI q (.slice vo d.kids.length vc) (T.adds base d.kids 0) w8 := by rw [T.adds_zero]; exact hown8
          go_loopw [46] (fun y w0 => ∃ m : Nat, y = .int .i64 (m : Int) ∧ m ≤ d.kids.length ∧ Blk q (ndRow d (.slice vo d.kids.length vc)) 59 w0 ∧ OwnsI q (.slice vo d.kids.length vc) (T.adds base d.kids m) w0 ∧ Below q wr w0) (fun y _ => d.kids.length - (intOf y).toNat)
          case atStart => exact ⟨0, rfl, by omega, hQ8, hK0, hB8⟩
          case round =>
            clear hQ8 hown8 hB8 hK0
            obtain ⟨m, rfl, hm, hQ, hK, hB⟩ := hrel
            have c4 := hQ.cell 4
            simp only [ndRow, List.getElem?_cons_succ, List.getElem?_cons_zero] at c4
            by_cases hml : m < d.kids.length
            · have hk0 := hd0.2 d.kids[m] (List.getElem_mem hml)
              obtain ⟨g, rfl⟩ : ∃ g, vo = some ⟨g, 0, none⟩ := by
                rcases hK.2 with ⟨h1, h2⟩ | ⟨g, cap, cur, h1, _⟩
                · rw [T.adds_len] at h2; omega
                · injection h1 with h1 _ _
                  exact ⟨g, h1⟩
              have hK2 := hK
              unfold OwnsI at hK2
              rw [T.adds_len] at hK2
              have hcm := hK2.cellAt m (by omega)
              have hfm := hK2.frozenAt m
              have hst := hK2.stored m (.int .i64 (d.kids[m] + (base : Int)))
              rw [← List.map_set, T.adds_set base d.kids m hml] at hst
              rw [List.getElem?_map, T.adds_get base d.kids m hml, Option.map_some] at hcm
              have hQ2 := hQ.grown hst.2 (ne_row hQ hK (by decide))
              have hB2 := hB.setCell (p := ⟨g, m, none⟩) (hK.lt g rfl).1 (.int .i64 (d.kids[m] + (base : Int)))
              generalize hkm : d.kids[m] = km at hk0 hcm hst hQ2 hB2
              clear hK2 hK hB hQ hkm
              rw [hbase2]
              go_upto_region 16 with fail
              go_wp2_with fail
              go_roundw
              case rel => exact ⟨m + 1, by go_num, by omega, hQ2, by unfold OwnsI; rw [T.adds_len]; exact hst.1, hB2⟩
              case measure => simp [intOf]; omega
            · obtain rfl : m = d.kids.length := by omega
              rw [T.adds_all] at hK
              have hI5 := hI.keep (u' := wr) (by rw [hq]; exact hB)
              have c1 := hI5.out.cell 0
              simp only [List.getElem?_cons_zero] at c1
              obtain ⟨d0, d1, d2, d3, d4⟩ := node_at hQ
              have hX5 := hX.keep (w' := wr) (by rw [hq]; exact hB)
              have hK5 : OwnsI w.heap.size (.slice vo d.kids.length vc) (T.shift base d).kids (wr.alloc (.cells (ndRow (T.shift base d) (.slice vo d.kids.length vc)).toArray 59)) :=
                own_keep (own_low hK (by have := hI.below.size; omega)) (below_box _ _)
              have hap : (Value.slice vo d.kids.length vc).ownBlock = none ∨ (Value.slice vo d.kids.length vc).ownBlock ≠ kv.ownBlock := by
                cases hv1 : (Value.slice vo d.kids.length vc).ownBlock with
                | none => exact .inl rfl
                | some g1 =>
                  refine .inr fun e => ?_
                  have h1 := (hK.lt g1 hv1).1
                  have h2 := (hI.kids.lt g1 e.symm).2
                  omega
              have hI6 : TI w need P' st.2 nv' kv (wr.alloc (.cells (ndRow (T.shift base d) (.slice vo d.kids.length vc)).toArray 59)) := hI5.keep (below_box _ _)
              have hX6 : Blk xp _ _ (wr.alloc (.cells (ndRow (T.shift base d) (.slice vo d.kids.length vc)).toArray 59)) := hX5.keep (below_box _ _)
              have hPl2 : P'.length ≤ 20000 := by
                have h1 := congrArg List.length hP'
                simp only [List.length_map, List.length_append, List.length_take] at h1
                omega
              have hsz0 := hI6.below.size
              clear hI hX hB hI5 hX5 hK hQ
              obtain ⟨na, nc, rfl⟩ := owns_slice hI6.nodes.1
              go_upto_region 18 with (at_builtin; refine wpList_app1 rfl _ _ 22 rfl w.heap.size 59 5 elemNode _ _ _ rfl hI6.nodes.1 ⟨_, 0, none⟩ 1 (ndRow (T.shift base d) (.slice vo d.kids.length vc)) rfl rfl (blk_new_cells _ _ _) (by simp [ndRow, Value.oneCell']) (by omega) hsz0 ?_; rintro g2 cap2 w10 hown' hgrow hg2; have hout := hI6.out.grown hgrow (ne_row hI6.out hI6.nodes.1 (by decide)); have c1' := hout.cell 0; have f1' := hout.free 0; simp only [List.getElem?_cons_zero] at c1')
              have hI7 := hI6.node hK5 hap hgrow hown' hg2
              have hX7 := (hX6.grown hgrow (ne_row hX6 hI6.nodes.1 (by decide))).other (c := w.heap.size + 1) 0 (Value.slice (some ⟨g2, 0, none⟩) (P'.length + 1) cap2) (by omega)
              clear hI6 hX6 hgrow hown' hg2 hout c1' f1' c1 d0 d1 d2 d3 d4 hK5 hap
              subst hbase2
              go_wp2_with fail
              go_roundw
              case rel => exact ⟨j + 1, _, _, by go_num, by omega, by rw [List.map_append, hP', htk, List.append_assoc]; rfl, hI7, hX7⟩
              case measure => simp [intOf]; omega
        · obtain rfl : j = x.1.length := by omega
          rw [List.take_length] at hP'
          obtain ⟨na, nc, rfl⟩ := owns_slice hI.nodes.1
          obtain ⟨ka2, kc2, rfl⟩ := owns_slice hI.kids
          have k1 := hI.top.cell 4
          have x1 := hX.cell 1
          simp only [ndRow, List.getElem?_cons_succ, List.getElem?_cons_zero] at k1 x1
          have hrt := hx0.2.1
          have hbase : st.1.length ≤ 10000 := by omega
          have hi2 : st.2.length ≤ 1000 := by
            rw [hfl2, List.length_take]
            have := hs.1
            omega
          clear hfl2
          have hsz0 := hI.below.size
          have hI6 : TI w need P' st.2 _ _ (wr.alloc (.cells #[.int .i64 ((st.1.length : Int) + x.2)] 3)) := hI.keep (below_box _ _)
          have hsz1 := hI6.below.size
          go_upto_region 20 with (at_builtin; refine wpList_app1 rfl _ _ 40 rfl w.heap.size 3 1 elemInt _ _ _ rfl hI6.kids ⟨_, 0, none⟩ 1 [.int .i64 ((st.1.length : Int) + x.2)] rfl rfl (one_at _ _ _) (one_cell _ rfl) (by omega) hsz1 ?_; rintro g2 cap2 w10 hown' hgrow hg2; have htop := hI6.top.grown hgrow (ne_row hI6.top hI6.kids (by decide)); have c1' := htop.cell 4; have f1' := htop.free 4; simp only [ndRow, List.getElem?_cons_succ, List.getElem?_cons_zero] at c1')
          have hI8 := hI6.kid hgrow hown' hg2
          clear hI hI6 hX hgrow hown' hg2 htop c1' f1' k1 x1
          go_wp2_with fail
          go_roundw
          case rel => exact ⟨i + 1, P', _, _, by go_num, by omega, by rw [hfs]; exact hP', by rw [hfs]; exact hI8⟩
          case measure => simp [intOf]; omega
    · obtain rfl : i = l.length := by omega
      rw [List.take_length] at hP hI
      have hthr : ∀ _ : Unit, T.thr need l = (P.map (·.1) ++ [⟨2, 0, need, (T.fold l).2⟩], (P.length : Int)) := fun _ => by
        unfold T.thr
        rw [← hP, List.length_map]
      generalize (T.fold l).2 = ks at hI hthr
      clear hc hfl hP hs
      obtain ⟨na, nc, rfl⟩ := owns_slice hI.nodes.1
      obtain ⟨ka, kc, rfl⟩ := owns_slice hI.kids
      have o0 := hI.out.cell 0
      have o1 := hI.out.cell 1
      have fo1 := hI.out.free 1
      simp only [List.getElem?_cons_succ, List.getElem?_cons_zero] at o0 o1
      go_upto_region 22 with fail
      generalize hw1 : wr.setCell _ _ = w1
      have hg1 : wr.grownBy w1 (some (w.heap.size + 1)) := by rw [← hw1]; exact grown_set _ _ _ _
      have hres := hI.res.grown hg1 (by intro e; have := Option.some.inj e; omega)
      have htop := hI.top.grown hg1 (by intro e; have := Option.some.inj e; omega)
      have hout : Blk (w.heap.size + 1) [.slice na P.length nc, .int .i64 (P.length : Int)] 24 w1 := by rw [← hw1]; exact hI.out.set 1 _
      have hnodes := hI.nodes.kept hg1 (not_row hI.out hI.nodes.1 (by decide)) (fun p hp => not_row hI.out (hI.nodes.2 p hp) (by decide))
      have hkids : OwnsI w.heap.size (.slice ka ks.length kc) ks w1 := World.ownsRow.kept hI.kids hg1 (not_row hI.out hI.kids (by decide))
      have hB1 : Below w.heap.size w w1 := by rw [← hw1]; exact hI.below.setCell (p := ⟨w.heap.size + 1, 1, none⟩) (Nat.le_succ _) _
      have hap2 := hI.apart2
      clear hI hw1 hg1 o0 o1 fo1
      have o0 := hout.cell 0
      simp only [List.getElem?_cons_zero] at o0
      obtain ⟨d0, d1, d2, d3, d4⟩ := node_at htop
      have hsz0 := hB1.size
      have hsz1 : w.heap.size ≤ (w1.alloc (.cells (ndRow ⟨2, 0, need, ks⟩ (.slice ka ks.length kc)).toArray 59)).heap.size := by simp; omega
      have hn2 := hnodes.keep (below_box w1 (.cells (ndRow ⟨2, 0, need, ks⟩ (.slice ka ks.length kc)).toArray 59))
      have hk2 : OwnsI w.heap.size (.slice ka ks.length kc) ks (w1.alloc (.cells (ndRow ⟨2, 0, need, ks⟩ (.slice ka ks.length kc)).toArray 59)) := own_keep hkids (below_box _ _)
      have hres2 := hres.alloc (.cells (ndRow ⟨2, 0, need, ks⟩ (.slice ka ks.length kc)).toArray 59)
      have hout2 := hout.alloc (.cells (ndRow ⟨2, 0, need, ks⟩ (.slice ka ks.length kc)).toArray 59)
      have hB2 := hB1.alloc hsz0 (.cells (ndRow ⟨2, 0, need, ks⟩ (.slice ka ks.length kc)).toArray 59)
      clear hnodes hkids hres hB1 hout
      go_upto_region 23 with (at_builtin; refine wpList_app1 rfl _ _ 22 rfl w.heap.size 59 5 elemNode _ _ _ rfl hn2.1 ⟨_, 0, none⟩ 1 (ndRow ⟨2, 0, need, ks⟩ (.slice ka ks.length kc)) rfl rfl (blk_new_cells _ _ _) (by simp [ndRow, Value.oneCell']) (by omega) hsz1 ?_; rintro g2 cap2 w10 hown' hgrow hg2; have hout3 := hout2.grown hgrow (ne_row hout2 hn2.1 (by decide)); have c1' := hout3.cell 0; have f1' := hout3.free 0; simp only [List.getElem?_cons_zero] at c1')
      have n4 := hn2.push hk2 hgrow hown'
      have r4 := hres2.grown hgrow (ne_row hres2 hn2.1 (by decide))
      have b4 := hB2.grown hgrow hB2.size (fun k hk => (hn2.1.lt k hk).1)
      clear hn2 hk2 hgrow hown' hg2 hres2 hout2 hB2 c1' f1' o0 d0 d1 d2 d3 d4 htop hap2
      generalize hw5 : w10.setCell _ _ = w5
      have hg5 : w10.grownBy w5 (some (w.heap.size + 1)) := by rw [← hw5]; exact grown_set _ _ _ _
      have n5 := n4.kept hg5 (not_row hout3 n4.1 (by decide)) (fun p hp => not_row hout3 (n4.2 p hp) (by decide))
      have r5 := r4.grown hg5 (by intro e; have := Option.some.inj e; omega)
      have o5 : Blk (w.heap.size + 1) [.slice (some ⟨g2, 0, none⟩) (P.length + 1) cap2, .int .i64 (P.length : Int)] 24 w5 := by rw [← hw5]; exact hout3.set 0 _
      have b5 : Below w.heap.size w w5 := by rw [← hw5]; exact b4.setCell (p := ⟨w.heap.size + 1, 0, none⟩) (Nat.le_succ _) _
      clear hw5 hg5 n4 r4 hout3 b4
      have o0 := o5.cell 0
      have o1 := o5.cell 1
      simp only [List.getElem?_cons_zero, List.getElem?_cons_succ] at o0 o1
      go_wp2_with (refine wpList_store_row rfl 24 (.tmp 6) (.tmp 85) rfl w.heap.size #[.slice (some ⟨g2, 0, none⟩) (P.length + 1) cap2, .int .i64 (P.length : Int)] rfl rfl 24 _ r5 (by kernel_rfl) (by kernel_rfl) (by simp [Value.oneCell']) ?_)
      have hg6 : w5.grownBy (w5.setRow w.heap.size #[.slice (some ⟨g2, 0, none⟩) (P.length + 1) cap2, .int .i64 (P.length : Int)]) (some w.heap.size) := ⟨rfl, rfl, rfl, by rw [setRow_size]; exact Nat.le_refl _, fun k _ hk => setRow_other _ _ _ _ (fun e => hk (by rw [e]))⟩
      have n6 := n5.kept hg6 (not_row r5 n5.1 (by decide)) (fun p hp => not_row r5 (n5.2 p hp) (by decide))
      refine bodyPost_ret (results_cell_row rfl _ _ w.heap.size 24 #[.slice (some ⟨g2, 0, none⟩) (P.length + 1) cap2, .int .i64 (P.length : Int)] (0, 0) _ rfl (setRow_heap _ _ _ _ _ _ r5) Tryd.underlying24 rfl (by kernel_rfl)) rfl ?_
      rw [hthr ()]
      exact ⟨_, rfl, ⟨_, ⟨own_low n6.1 (Nat.zero_le _), fun p hp => own_low (n6.2 p hp) (Nat.zero_le _)⟩, by rw [List.map_append]; rfl, by simp⟩, Below.setRow _ b5 (Nat.le_refl _)⟩
end Go.Proofs.YtjjmnpgbcgkcpaaDoor
