/-
  The law of grids: the program's walk.
-/
import Derived.Test.YtjjmnpgbcgkcpaaDoorGridLaw
set_option linter.unusedVariables false
namespace Go.Proofs.YtjjmnpgbcgkcpaaDoor
open Go.RowKit

theorem rem3 (x : Int) (h0 : 0 ≤ x) : ∃ i : Fin 3, x.tmod 3 = ((i.1 : Nat) : Int) := by
  rw [Int.tmod_eq_emod_of_nonneg h0]
  refine ⟨⟨(x % 3).toNat, by omega⟩, ?_⟩
  show x % 3 = (((x % 3).toNat : Nat) : Int)
  omega

set_option maxRecDepth 100000 in
set_option maxHeartbeats 400000 in
theorem topGrids_any (x y : Int) (w : World) (hx : 0 ≤ x) (hy : 0 ≤ y) (hT : Tab w) :
    Calls Tryd.prog 3 #[.int .u8 x, .int .u8 y] w fun e w' => e = .returned (.bool true) ∧ Below w.heap.size w w' := by
  obtain ⟨i, hi⟩ := rem3 x hx
  obtain ⟨j, hj⟩ := rem3 y hy
  have hi3 := i.2
  have hj3 := j.2
  have g1 := T.good_ok i j
  have s1 := T.sup_ok i j
  have f1 := T.famR i j
  have f2 := T.famW i j
  have t1 := T.tab_ok i j
  have d1 := T.dual_ok i j
  have l1 := T.least_ok i j
  have hr0 : (T.lTab (i.1 + 1) (j.1 + 1)).getD 0 0#16 = T.least (i.1 + 1) (j.1 + 1) := rfl
  have ha : 1 ≤ i.1 + 1 ∧ i.1 + 1 ≤ 3 := by omega
  have hb : 1 ≤ j.1 + 1 ∧ j.1 + 1 ≤ 3 := by omega
  have hG : Calls Tryd.prog 4 #[.int .i64 ((i.1 + 1 : Nat) : Int), .int .i64 ((j.1 + 1 : Nat) : Int)] w fun e w' => ∃ nv nv', e = .returned (.tuple #[.agg #[nv, .int .i64 (T.gR (i.1 + 1) (j.1 + 1)).2], .agg #[nv', .int .i64 (T.gW (i.1 + 1) (j.1 + 1)).2], .int .i64 0]) ∧
      NodesAt w' nv (T.gR (i.1 + 1) (j.1 + 1)).1 ∧ NodesAt w' nv' (T.gW (i.1 + 1) (j.1 + 1)).1 ∧ Below w.heap.size w w' := grid_any _ _ ha hb w
  generalize T.gR (i.1 + 1) (j.1 + 1) = R at g1 s1 f1 hG
  generalize T.gW (i.1 + 1) (j.1 + 1) = Q at g1 s1 f2 hG
  generalize T.least (i.1 + 1) (j.1 + 1) = r at t1 l1 hr0
  generalize T.fTab (i.1 + 1) (j.1 + 1) = F at f1 t1 d1 l1
  generalize T.lTab (i.1 + 1) (j.1 + 1) = L at f2 t1 d1 hr0
  obtain ⟨t1, t2, t3, t4, t5, t6, t7, t8⟩ := t1
  have hF : ∀ u nv, NodesAt u nv R.1 → Tab u → Calls Tryd.prog 5 #[.agg #[nv, .int .i64 R.2]] u fun e w' => ∃ v, e = .returned (.tuple #[v, .int .i64 0]) ∧ OwnV u.heap.size v F w' ∧ Below u.heap.size u w' := fun u nv h k => by
    have h1 := family_any R nv u h (T.goodX_of g1.1) s1.1 k (by rw [f1, t1]; omega)
    rw [f1] at h1
    exact h1
  have hQ : ∀ u nv, NodesAt u nv Q.1 → Tab u → Calls Tryd.prog 5 #[.agg #[nv, .int .i64 Q.2]] u fun e w' => ∃ v, e = .returned (.tuple #[v, .int .i64 0]) ∧ OwnV u.heap.size v L w' ∧ Below u.heap.size u w' := fun u nv h k => by
    have h1 := family_any Q nv u h (T.goodX_of g1.2) s1.2 k (by rw [f2]; omega)
    rw [f2] at h1
    exact h1
  have hI : ∀ u v v2, Sets u v F → Sets u v2 L → Tab u → Calls Tryd.prog 6 #[v, v2] u fun e w' => e = .returned (.bool true) ∧ Below u.heap.size u w' := fun u v v2 h h2 k => by
    have h1 := isDual_any v v2 F L u h h2 t4 t5 k (by rw [d1]; omega)
    rw [d1, beq_self_eq_true] at h1
    exact h1
  have hC : ∀ u v v2, Sets u v F → Sets u v2 L → Calls Tryd.prog 7 #[v, v2] u fun e w' => e = .returned (.bool true) ∧ Below u.heap.size u w' := fun u v v2 h h2 => by
    have h1 := cross_any v v2 F L u h h2
    rw [t6] at h1
    exact h1
  have hM : ∀ u v, Sets u v F → Tab u → Calls Tryd.prog 8 #[v] u fun e w' => e = .returned (.tuple #[.int .u16 (M r), .int .i64 0]) ∧ Below u.heap.size u w' := fun u v h k => least_any v F r u h t4 t5 k l1
  have hc1 : ∀ u, Calls Tryd.prog 9 #[.int .u16 (M r)] u fun e w' => e = .returned (.int .i64 ((i.1 + 1 : Nat) : Int)) ∧ Below u.heap.size u w' := fun u => by
    have h1 := refCount_any r u
    rw [t7] at h1
    exact h1
  have hc2 : ∀ u, Calls Tryd.prog 9 #[.int .u16 (M (F.getD 0 0#16))] u fun e w' => e = .returned (.int .i64 ((j.1 + 1 : Nat) : Int)) ∧ Below u.heap.size u w' := fun u => by
    have h1 := refCount_any (F.getD 0 0#16) u
    rw [t8] at h1
    exact h1
  clear g1 s1 f1 f2 t4 t5 t6 t7 t8 d1 l1
  go_enter Tryd.func3, Tryd.ntmps3
  go_upto_region 2 with fail
  rw [show (1 + ((i.1 : Nat) : Int)) = ((i.1 + 1 : Nat) : Int) by omega, show (1 + ((j.1 : Nat) : Int)) = ((j.1 + 1 : Nat) : Int) by omega]
  have hFl : ((F.length : Int) != ((i.1 + 1 : Nat) : Int)) = false := by rw [t1]; simp
  have hF0 : 0 < F.length := by omega
  have hF4 : F.length ≤ 3 := by omega
  clear t1 hi hj hx hy
  generalize i.1 + 1 = a at ha hG hc1 hFl ⊢
  generalize j.1 + 1 = b at hb hG hc2 ⊢
  clear hi3 hj3
  go_upto_region 3 with (go_at_call 4; refine hG.mono ?_; clear hG; rintro e w2 ⟨nv, nv', rfl, hN1, hN2, hB2⟩; obtain ⟨nb1, nc1, rfl, _⟩ := hN1.rd; obtain ⟨nb2, nc2, rfl, _⟩ := hN2.rd)
  generalize hw3 : World.alloc (w2.alloc _) _ = w3
  have hX : Blk w2.heap.size [.slice (some ⟨nb1, 0, none⟩) R.1.length nc1, .int .i64 R.2] 24 w3 := by rw [← hw3]; exact (Blk.new _ _ w2).alloc _
  have hY : Blk (w2.heap.size + 1) [.slice (some ⟨nb2, 0, none⟩) Q.1.length nc2, .int .i64 Q.2] 24 w3 := by
    rw [← hw3]
    have h := Blk.new [.slice (some ⟨nb2, 0, none⟩) Q.1.length nc2, .int .i64 Q.2] 24 (w2.alloc (.cells #[.slice (some ⟨nb1, 0, none⟩) R.1.length nc1, .int .i64 R.2] 24))
    rw [World.size_alloc] at h
    exact h
  have hB23 : Below w2.heap.size w2 w3 := by rw [← hw3]; exact ((Below.refl _ w2).alloc (Nat.le_refl _) _).alloc (by simp) _
  clear hw3
  have hB3 := hB2.trans (hB23.mono hB2.size)
  have hN3 := hN1.keep hB23
  have hM3 := hN2.keep hB23
  clear hB2 hB23 hN1 hN2
  generalize w2.heap.size = p at hX hY ⊢
  have hF3 := hF w3 _ hN3 (hT.keep hB3)
  have c0 := hX.cell 0
  have c1 := hX.cell 1
  simp only [List.getElem?_cons_zero, List.getElem?_cons_succ] at c0 c1
  clear hF hN3 hX
  go_upto_region 4 with (go_at_call 5; refine hF3.mono ?_; clear hF3 c0 c1; rintro e w4 ⟨vf, rfl, hO4, hB4⟩; obtain ⟨fa, fc, rfl⟩ := owns_slice hO4)
  have hY4 := hY.keep hB4
  have hM4 := hM3.keep hB4
  have hB04 := hB3.trans (hB4.mono hB3.size)
  have hf4 := OwnV.sets hO4 (by omega)
  clear hY hM3 hB3 hB4 hO4
  have hQ4 := hQ w4 _ hM4 (hT.keep hB04)
  have c0 := hY4.cell 0
  have c1 := hY4.cell 1
  simp only [List.getElem?_cons_zero, List.getElem?_cons_succ] at c0 c1
  clear hQ hM4 hY4
  go_upto_region 5 with (go_at_call 5; refine hQ4.mono ?_; clear hQ4 c0 c1; rintro e w5 ⟨vl, rfl, hO5, hB5⟩; obtain ⟨la, lc, rfl⟩ := owns_slice hO5)
  have hB05 := hB04.trans (hB5.mono hB04.size)
  have hf5 := hf4.keep hB5
  have hl5 := OwnV.sets hO5 (by omega)
  clear hf4 hB04 hB5 hO5
  have hI5 := hI w5 _ _ hf5 hl5 (hT.keep hB05)
  clear hI
  go_upto_region 7 with (first
    | (go_at_call 6; refine hI5.mono ?_; clear hI5; rintro e w6 ⟨rfl, hB6⟩; have hB06 := hB05.trans (hB6.mono hB05.size); have hf6 := hf5.keep hB6; have hl6 := hl5.keep hB6; have hC6 := hC w6 _ _ hf6 hl6; clear hB05 hB6 hf5 hl5 hC)
    | (go_at_call 7; refine hC6.mono ?_; clear hC6; rintro e w7 ⟨rfl, hB7⟩; have hB07 := hB06.trans (hB7.mono hB06.size); have hf7 := hf6.keep hB7; have hl7 := hl6.keep hB7; have hM7 := hM w7 _ hf7 (hT.keep hB07); clear hB06 hB7 hf6 hl6 hM))
  obtain ⟨f0, hf0⟩ : ∃ f0, ∀ _ : Unit, F.getD 0 0#16 = f0 := ⟨_, fun _ => rfl⟩
  rw [hf0 ()] at hc2
  have cellF : ∀ u, Sets u (.slice fa F.length fc) F → ∃ b off, fa = some ⟨b, off, none⟩ ∧ u.cell? ⟨b, off, none⟩ = some (.int .u16 (M f0)) := fun u hu => by
    obtain ⟨a0, c0, e0, h0, _⟩ := hu
    injection e0 with e1 _ _
    subst e1
    obtain ⟨b, off, e2, h2⟩ := h0 0 hF0
    unfold setAt at h2
    rw [hf0 ()] at h2
    exact ⟨b, off, e2, h2⟩
  have cellL : ∀ u, Sets u (.slice la L.length lc) L → ∃ b off, la = some ⟨b, off, none⟩ ∧ u.cell? ⟨b, off, none⟩ = some (.int .u16 (M r)) := fun u hu => by
    obtain ⟨a0, c0, e0, h0, _⟩ := hu
    injection e0 with e1 _ _
    subst e1
    obtain ⟨b, off, e2, h2⟩ := h0 0 t2
    unfold setAt at h2
    rw [hr0] at h2
    exact ⟨b, off, e2, h2⟩
  have hR0 : ∀ _ : Unit, _ := fun _ => hr0
  clear hr0
  obtain ⟨fb, fo, rfl, _⟩ := cellF _ hf7
  obtain ⟨lb, lo, rfl, _⟩ := cellL _ hl7
  go_upto_region 8 with (go_at_call 8; refine hM7.mono ?_; clear hM7; rintro e w8 ⟨rfl, hB8⟩; have hB08 := hB07.trans (hB8.mono hB07.size); have hf8 := hf7.keep hB8; have hl8 := hl7.keep hB8; have hc81 := hc1 w8; clear hB07 hB8 hf7 hl7)
  go_wp2_with (first
    | (go_at_call 9; refine hc81.mono ?_; clear hc81; rintro e w9 ⟨rfl, hB9⟩; have hB09 := hB08.trans (hB9.mono hB08.size); have hf9 := hf8.keep hB9; have hl9 := hl8.keep hB9; obtain ⟨_, _, e1, cF⟩ := cellF _ hf9; injection e1 with e1; injection e1 with e1 e2; subst e1 e2; have hc92 := hc2 w9; clear hB08 hB9 hf8 hl8)
    | (go_at_call 9; refine hc92.mono ?_; clear hc92; rintro e w10 ⟨rfl, hB10⟩; have hB010 := hB09.trans (hB10.mono hB09.size); obtain ⟨_, _, e3, cL⟩ := cellL _ (hl9.keep hB10); injection e3 with e3; injection e3 with e3 e4; subst e3 e4; clear hB09 hB10 hf9 hl9))
  go_ret
  exact ⟨rfl, hB010⟩
end Go.Proofs.YtjjmnpgbcgkcpaaDoor
