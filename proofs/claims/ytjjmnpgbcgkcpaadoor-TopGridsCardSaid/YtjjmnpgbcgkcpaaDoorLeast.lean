/-
  A least transversal of a family; whether a list is the dual of a family.
-/
import Derived.Test.YtjjmnpgbcgkcpaaDoorDual
set_option linter.unusedVariables false
namespace Go.Proofs.YtjjmnpgbcgkcpaaDoor
open Go.RowKit Go.Shelf
attribute [local go_sem] Oper.semAt_some

theorem blk_own2 {β : Type} (B b : Nat) (l : β → List Value) (T : TypeId) : OwnFrom B (fun (s : β) W => Blk b (l s) T W) := fun s X Y row hs hg hr => hs.grown hg (fun e => by
  obtain ⟨_, o, ho, hc⟩ := hr b e.symm
  have h : X.heap[b]? = _ := hs
  rw [h] at ho
  have ho := Option.some.inj ho
  rw [← ho] at hc
  cases hc)

namespace T
theorem find_of_first (p : V → Bool) (l : List V) (pre : List V) (s : V) (h : pre ++ [s] <+: l) (hno : pre.any p = false) (hs : p s = true) : l.find? p = some s := by
  obtain ⟨t, rfl⟩ := h
  rw [List.append_assoc, List.find?_append]
  have h1 : pre.find? p = none := by
    rw [List.find?_eq_none]
    intro x hx hp
    have : pre.any p = true := List.any_eq_true.2 ⟨x, hx, hp⟩
    rw [hno] at this
    cases this
  rw [h1]
  simp [hs]
theorem find_none (p : V → Bool) (l : List V) (h : l.any p = false) : l.find? p = none := by
  rw [List.find?_eq_none]
  intro x hx hp
  have : l.any p = true := List.any_eq_true.2 ⟨x, hx, hp⟩
  rw [h] at this
  cases this
end T

set_option maxRecDepth 100000 in
set_option maxHeartbeats 400000 in
theorem least_in (ao : Option Addr) (cap : Nat) (f : List V) (r : V) (w : World) (hN : Sets w (.slice ao f.length cap) f) (hg : T.goodF f = true) (hsup : (T.support f).toNat < 512) (hT : Tab w) (h0 : 0 < w.heap.size) (hr : (T.subsets (T.support f)).find? (T.hits f) = some r) (n : Nat) (hn : 3 ≤ n) :
    CallsIn Fence.wide n Tryd.prog 8 #[.slice ao f.length cap] w fun e w' => e = .returned (.tuple #[.int .u16 (M r), .int .i64 0]) ∧ Below w.heap.size w w' := by
  have Hr : ∀ _ : Unit, _ := fun _ => hr
  have Hsup : ∀ _ : Unit, _ := fun _ => hsup
  clear hr hsup
  have hdd : ∀ k : Nat, (Fence.wide.depth.isSome = true → 1 ≤ k) := fun k h => by cases h
  refine callsIn_of_wp_marks Tryd.func8 rfl trivial ?_ rfl
  simp only [Tryd.ntmps8, List.size_toArray, List.length_cons, List.length_nil, Nat.reduceAdd, Nat.reduceSub, Array.replicate_succ, Array.replicate_zero, List.push_toArray, List.append_toArray, List.nil_append, List.cons_append]
  obtain ⟨w1, hw1⟩ : ∃ w1, ((w.alloc (.cells #[.slice ao f.length cap] 28)).alloc (.cells #[.int .u16 0] 33)).alloc (.cells #[.int .i64 0] 25) = w1 := ⟨_, rfl⟩
  have X1 : Blk w.heap.size [.slice ao f.length cap] 28 w1 := by rw [← hw1]; exact ((Blk.new _ _ w).alloc _).alloc _
  have R1 : Blk (w.heap.size + 1) [.int .u16 0] 33 w1 := by
    rw [← hw1]
    have h := Blk.new [.int .u16 0] 33 (w.alloc (.cells #[.slice ao f.length cap] 28))
    rw [World.size_alloc] at h
    exact h.alloc _
  have E1 : Blk (w.heap.size + 1 + 1) [.int .i64 0] 25 w1 := by
    rw [← hw1]
    have h := Blk.new [.int .i64 0] 25 ((w.alloc (.cells #[.slice ao f.length cap] 28)).alloc (.cells #[.int .u16 0] 33))
    rw [World.size_alloc, World.size_alloc] at h
    exact h
  have B1 : Below w.heap.size w w1 := by rw [← hw1]; exact (((Below.refl _ w).alloc (Nat.le_refl _) _).alloc (by simp) _).alloc (by simp; omega) _
  have hV := famValid_any _ f w1 (hN.keep B1) hg
  have c0 := X1.cell 0
  simp only [List.getElem?_cons_zero] at c0
  gi_wp2_with (refine ⟨trivial, hdd _, ?_⟩; first
    | (gi_at_call 24; refine (callsIn_wide.2 hV).mono ?_; clear hV hw1 c0; rintro e w2 ⟨rfl, hB2⟩; have o1 : w.heap.size + 1 + 1 < w2.heap.size := Nat.lt_of_lt_of_le E1.lt hB2.size; have X2 := X1.keep hB2; have R2 := R1.keep hB2; have E2 := E1.keep hB2; have B2 := B1.trans (hB2.mono B1.size); have c0 := X2.cell 0; simp only [List.getElem?_cons_zero] at c0; have hS := support_any _ f w2 (hN.keep B2); clear X1 R1 E1 B1 hB2)
    | (gi_at_call 25; refine (callsIn_wide.2 hS).mono ?_; clear hS c0; rintro e w3 ⟨rfl, hw3⟩; rw [hw3]; clear hw3 w3)
    | (gi_at_call 15; refine (callsIn_wide.2 (subsets_any _ _)).mono ?_; rintro e w4 ⟨rfl, rfl⟩))
  have X4 := X2.alloc (.cells #[.int .u16 (M (T.support f))] 33)
  have R4 := R2.alloc (.cells #[.int .u16 (M (T.support f))] 33)
  have E4 := E2.alloc (.cells #[.int .u16 (M (T.support f))] 33)
  have S4 := Blk.new [.int .u16 (M (T.support f))] 33 w2
  have B4 := B2.alloc B2.size (.cells #[.int .u16 (M (T.support f))] 33)
  have hsz0 : (w2.alloc (.cells #[.int .u16 (M (T.support f))] 33)).heap.size = w2.heap.size + 1 := by rw [World.size_alloc]
  clear X2 R2 E2 B2
  generalize hW0 : World.alloc w2 _ = W0 at X4 R4 E4 S4 B4 hsz0 ⊢
  clear hW0
  generalize w2.heap.size = bs at o1 S4 hsz0 ⊢
  have hT4 := hT.keep B4
  have hst := subs_stops (T.support f) (Hsup ()) bs (n - 1) W0 S4.lt (S4.cell 0) hT4
  clear S4 hT4
  refine wpIn_rangeFunc_ownF rfl (by omega : 1 ≤ n) (gf := 30) (lb := #[.pointer (some ⟨bs, 0, none⟩)]) rfl trivial (enters_of Tryd.func30 (by kernel_rfl) rfl)
    hst (fun h k => h.trans k) (KpS.put (by omega) (by omega)) (Below.refl _ _) (fun _ => rfl)
    (fun (pre : List V) W => pre.any (T.hits f) = false ∧ Blk w.heap.size [.slice ao f.length cap] 28 W ∧ Blk (w.heap.size + 1) [.int .u16 0] 33 W ∧ Blk (w.heap.size + 1 + 1) [.int .i64 0] 25 W ∧ Below w.heap.size w W)
    (fun c (pre : List V) W => (c = .ret ∧ ∃ pre' s, pre = pre' ++ [s] ∧ pre'.any (T.hits f) = false ∧ T.hits f s = true) ∧ Blk (w.heap.size + 1) [.int .u16 (M (pre.getLastD 0#16))] 33 W ∧ Blk (w.heap.size + 1 + 1) [.int .i64 0] 25 W ∧ Below w.heap.size w W)
    (OwnFrom.and (ownFrom_pure _ (fun (pre : List V) => pre.any (T.hits f) = false)) (OwnFrom.and (blk_own _ _ _ _) (OwnFrom.and (blk_own _ _ _ _) (OwnFrom.and (blk_own _ _ _ _) (ownFrom_below (Nat.le_refl _) (by omega))))))
    (fun c => OwnFrom.and (ownFrom_pure _ (fun (pre : List V) => c = .ret ∧ ∃ pre' s, pre = pre' ++ [s] ∧ pre'.any (T.hits f) = false ∧ T.hits f s = true)) (OwnFrom.and (blk_own2 _ _ (fun (pre : List V) => [.int .u16 (M (pre.getLastD 0#16))]) _) (OwnFrom.and (blk_own _ _ _ _) (ownFrom_below (Nat.le_refl _) (by omega)))))
    ⟨rfl, X4, R4, E4, B4⟩
    (fun y => { tmps := #[.slice ao f.length cap, .pointer (some ⟨w.heap.size, 0, none⟩), .pointer (some ⟨w.heap.size + 1, 0, none⟩), .pointer (some ⟨w.heap.size + 1 + 1, 0, none⟩), .int .i64 0, .int .u16 (M y), .slice ao f.length cap, .int .i64 0, .int .i64 0, .bool false, undef, .slice ao f.length cap, .int .u16 (M (T.support f)), .func (.func 30) #[] #[.pointer (some ⟨bs, 0, none⟩)], .int .u16 (M y), undef, undef, undef, undef], defers := [] }) ?assign ?body ?done ?stop
  case assign =>
    intro l y W K hK
    gi_wp2
    exact hK
  case body =>
    rintro l pre y W ⟨hno, hX, hR, hE, hB⟩ _
    have c1 := hX.cell 0
    simp only [List.getElem?_cons_zero] at c1
    have hH := hits_any _ f y W (hN.keep hB)
    have Hno : ∀ _ : Unit, _ := fun _ => hno
    clear hno Hr Hsup hst X4 R4 E4 B4 hT hg hN
    cases hh : T.hits f y with
    | false =>
      have H2 : ∀ _ : Unit, (pre ++ [y]).any (T.hits f) = false := fun _ => by rw [List.any_append, Hno ()]; simp [hh]
      rw [hh] at hH
      clear hh
      gi_wp2_with (refine ⟨trivial, hdd _, ?_⟩; gi_at_call 23; refine (CallsIn.inRound l (callsIn_wide.2 hH)).mono ?_; clear hH; rintro e W2 ⟨rfl, hB2⟩)
      exact ⟨keeps_below hB2, KpS.of bs hB2, H2 (), hX.keep hB2, hR.keep hB2, hE.keep hB2, hB.trans (hB2.mono hB.size)⟩
    | true =>
      have H2 : ∀ _ : Unit, T.hits f y = true := fun _ => hh
      rw [hh] at hH
      clear hh
      gi_wp2_with (refine ⟨trivial, hdd _, ?_⟩; gi_at_call 23; refine (CallsIn.inRound l (callsIn_wide.2 hH)).mono ?_; clear hH; rintro e W2 ⟨rfl, hB2⟩; have hR3 := hR.keep hB2; have hE3 := hE.keep hB2; have c7 := hR3.cell 0; have f7 := hR3.free 0; have c8 := hE3.cell 0; have f8 := hE3.free 0; simp only [List.getElem?_cons_zero] at c7 c8)
      refine ⟨((keeps_below hB2).trans (KeepsOthers.setCell _ _ _)).trans (KeepsOthers.setCell _ _ _), ⟨rfl, pre, y, rfl, Hno (), H2 ()⟩, ?_, (hE3.other (c := w.heap.size + 1) 0 _ (by omega)).set 0 (.int .i64 0), ((hB.trans (hB2.mono hB.size)).setCell (p := ⟨w.heap.size + 1, 0, none⟩) (Nat.le_succ _) _).setCell (p := ⟨w.heap.size + 1 + 1, 0, none⟩) (by show w.heap.size ≤ w.heap.size + 1 + 1; omega) _⟩
      have e : (pre ++ [y]).getLastD 0#16 = y := by simp
      rw [e]
      exact (hR3.set 0 (.int .u16 (M y))).other (c := w.heap.size + 1 + 1) 0 _ (by omega)
  case done =>
    rintro D ys W hD rfl ⟨hno, _⟩ hK
    have h1 := T.find_none _ _ hno
    rw [Hr ()] at h1
    cases h1
  case stop =>
    rintro D c pre W hD hpre ⟨⟨rfl, pre', s, rfl, hno, hs⟩, hR, hE, hB⟩ hK
    have h1 := T.find_of_first _ _ _ _ hpre hno hs
    rw [Hr ()] at h1
    have h1 := Option.some.inj h1
    subst h1
    have e : (pre' ++ [r]).getLastD 0#16 = r := by simp
    rw [e] at hR
    clear Hr Hsup hst X4 R4 E4 B4 hT hg hN hno hs hpre e
    gi_wp2
    refine ⟨by simp, .inl ⟨_, _, rfl, run_takeDeferred hK, ?_⟩⟩
    have hD1 : ∀ b, b < D → (W.putObj D (.deferred none)).heap[b]? = W.heap[b]? := fun b hb => World.putObj_heap_other (by omega)
    exact ⟨_, results_cell_cell rfl _ _ (w.heap.size + 1) (w.heap.size + 1 + 1) (.int .u16 (M r)) (.int .i64 0) _ _ rfl rfl Tryd.underlying33 rfl Tryd.underlying25 rfl
      ((World.cell?_of_block (hD1 _ (by show w.heap.size + 1 < D; omega))).trans (hR.cell 0)) ((World.cell?_of_block (hD1 _ (by show w.heap.size + 1 + 1 < D; omega))).trans (hE.cell 0)), rfl, hB.trans (belowK_b (w := W0) (by omega) W D _ _ hD hK rfl rfl)⟩

theorem least_any (v : Value) (f : List V) (r : V) (w : World) (hN : Sets w v f) (hg : T.goodF f = true) (hsup : (T.support f).toNat < 512) (hT : Tab w) (hr : (T.subsets (T.support f)).find? (T.hits f) = some r) :
    Calls Tryd.prog 8 #[v] w fun e w' => e = .returned (.tuple #[.int .u16 (M r), .int .i64 0]) ∧ Below w.heap.size w w' := by
  have h0 : 0 < w.heap.size := cell_lt (hT 0 (by decide))
  obtain ⟨ao, cap, rfl, _⟩ := id hN
  exact (callsIn_wide (n := 5)).1 (least_in ao cap f r w hN hg hsup hT h0 hr 5 (by decide))
theorem dual_any (v : Value) (f : List V) (w : World) (hN : Sets w v f) (hg : T.goodF f = true) (hsup : (T.support f).toNat < 512) (hT : Tab w) (hlen : (T.famF (T.hits f) (T.subsets (T.support f))).length < 400) :
    Calls Tryd.prog 19 #[v] w fun e w' => ∃ v, e = .returned (.tuple #[v, .int .i64 0]) ∧ OwnV w.heap.size v (T.famF (T.hits f) (T.subsets (T.support f))) w' ∧ Below w.heap.size w w' := by
  have h0 : 0 < w.heap.size := cell_lt (hT 0 (by decide))
  obtain ⟨ao, cap, rfl, _⟩ := id hN
  exact (callsIn_wide (n := 5)).1 (dual_in ao cap f w hN hg hsup hT h0 hlen 5 (by decide))
theorem family_any (x : Ex) (nv : Value) (w : World) (hN : NodesAt w nv x.1) (hg : GoodX x) (hsup : (T.sup x.1).toNat < 512) (hT : Tab w) (hlen : (T.famF (T.holds x) (T.subsets (T.sup x.1))).length < 400) :
    Calls Tryd.prog 5 #[.agg #[nv, .int .i64 x.2]] w fun e w' => ∃ v, e = .returned (.tuple #[v, .int .i64 0]) ∧ OwnV w.heap.size v (T.famF (T.holds x) (T.subsets (T.sup x.1))) w' ∧ Below w.heap.size w w' := by
  have h0 : 0 < w.heap.size := cell_lt (hT 0 (by decide))
  exact (callsIn_wide (n := 5)).1 (family_in x nv w hN hg hsup hT h0 hlen 5 (by decide))

set_option maxHeartbeats 200000 in
theorem isDual_any (v v2 : Value) (f g : List V) (w : World) (hN : Sets w v f) (hN2 : Sets w v2 g) (hg : T.goodF f = true) (hsup : (T.support f).toNat < 512) (hT : Tab w) (hlen : (T.famF (T.hits f) (T.subsets (T.support f))).length < 400) :
    Calls Tryd.prog 6 #[v, v2] w fun e w' => e = .returned (.bool (T.famF (T.hits f) (T.subsets (T.support f)) == g)) ∧ Below w.heap.size w w' := by
  have hD := dual_any v f w hN hg hsup hT hlen
  obtain ⟨dl, hdl⟩ : ∃ dl, ∀ _ : Unit, T.famF (T.hits f) (T.subsets (T.support f)) = dl := ⟨_, fun _ => rfl⟩
  rw [hdl ()] at hD hlen
  obtain ⟨ao2, cap2, rfl, _⟩ := id hN2
  obtain ⟨ao, cap, rfl, _⟩ := id hN
  clear hN hg hsup hT
  go_enter Tryd.func6, Tryd.ntmps6
  go_wp2_with (first
    | (go_at_call 19; refine hD.mono ?_; clear hD; rintro e w2 ⟨v', rfl, hO, hB2⟩; have hE := equal_any v' _ dl g w2 (OwnV.sets hO (by omega)) (hN2.keep hB2); obtain ⟨oa, oc, rfl⟩ := owns_slice hO; clear hN2)
    | (go_at_call 20; refine hE.mono ?_; clear hE; rintro e w3 ⟨rfl, hB3⟩))
  go_ret
  rw [hdl ()]
  exact ⟨rfl, hB2.trans (hB3.mono hB2.size)⟩
end Go.Proofs.YtjjmnpgbcgkcpaaDoor
