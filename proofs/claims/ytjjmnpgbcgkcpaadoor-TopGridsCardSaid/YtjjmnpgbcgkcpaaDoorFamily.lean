/-
  The minimal sets that satisfy an expression.
-/
import Derived.Test.YtjjmnpgbcgkcpaaDoorHolds2
set_option linter.unusedVariables false
namespace Go.Proofs.YtjjmnpgbcgkcpaaDoor
open Go.RowKit Go.Shelf
attribute [local go_sem] Oper.semAt_some

namespace T
def famStep (p : V → Bool) (out : List V) (s : V) : List V := if p s && !accepts out s then out ++ [s] else out
def famF (p : V → Bool) (l : List V) : List V := l.foldl (famStep p) []
theorem famF_snoc (p : V → Bool) (l : List V) (s : V) : famF p (l ++ [s]) = famStep p (famF p l) s := by unfold famF; rw [List.foldl_append]; rfl
theorem famStep_prefix (p : V → Bool) (out : List V) (s : V) : out <+: famStep p out s := by
  unfold famStep
  split
  · exact List.prefix_append _ _
  · exact List.prefix_refl _
theorem foldl_prefix (p : V → Bool) : ∀ (r out : List V), out <+: r.foldl (famStep p) out
  | [], out => List.prefix_refl _
  | s :: r, out => (famStep_prefix p out s).trans (foldl_prefix p r _)
theorem famF_prefix (p : V → Bool) (l r : List V) (h : l <+: r) : famF p l <+: famF p r := by
  obtain ⟨t, rfl⟩ := h
  unfold famF
  rw [List.foldl_append]
  exact foldl_prefix p t _
end T

/-- sets as cells -/
def vls (l : List V) : List Value := l.map fun s => .int .u16 (M s)
def OwnV (B : Nat) (v : Value) (l : List V) (w : World) : Prop := w.ownsRow B 33 1 v l.length (vls l)
theorem infoSet : (Tryd.prog.info? 33).map (fun i => (i.zero, i.size, i.bytes)) = some (some (.int .u16 0), 1, 2) := by kernel_rfl
theorem OwnV.sets {B : Nat} {v : Value} {l : List V} {w : World} (h : OwnV B v l w) (hl : l.length ≤ 100000) : Sets w v l := by
  obtain ⟨ao, cap, hv⟩ := owns_slice h
  have hcap : l.length ≤ cap ∧ cap ≤ maxLen := by
    rcases h.2 with ⟨h1, h2⟩ | ⟨g, c, cur, h1, _, _, h2, h3, _⟩
    · rw [hv] at h1
      injection h1 with _ _ h3
      subst h3
      exact ⟨by omega, Nat.zero_le _⟩
    · rw [hv] at h1
      injection h1 with _ _ h4
      subst h4
      exact ⟨h2, h3⟩
  refine ⟨ao, cap, hv, ?_, hcap.1, hl, hcap.2⟩
  unfold OwnV at h
  rw [hv] at h
  refine owns_cells h (fun i hi => ?_)
  simp [vls, setAt, hi]

theorem KpS.grown {b : Nat} {W W' : World} {row : Option Nat} (hg : W.grownBy W' row) (hrow : ∀ g, row = some g → g ≠ 0 ∧ g ≠ b ∧ ∃ C fr T, W.heap[g]? = some (.cells C T fr) ∧ T ≠ 3) : KpS b W W' :=
  ⟨hg.size, fun k o hk hu => (hg.block k (Array.getElem?_eq_some_iff.1 hk).1 (fun e => by
    obtain ⟨h1, h2, C, fr, T, h3, h4⟩ := hrow k e.symm
    rcases hu with hu | hu | ⟨c, fz, hu⟩
    · exact h1 hu
    · exact h2 hu
    · rw [hk] at h3
      have h3 := Option.some.inj h3
      rw [hu] at h3
      injection h3 with _ h3 _
      exact h4 h3.symm)).trans hk⟩
theorem blk_own {β : Type} (B b : Nat) (l : List Value) (T : TypeId) : OwnFrom B (fun (_ : β) W => Blk b l T W) := fun s X Y row hs hg hr => hs.grown hg (fun e => by
  obtain ⟨_, o, ho, hc⟩ := hr b e.symm
  have h : X.heap[b]? = _ := hs
  rw [h] at ho
  have ho := Option.some.inj ho
  rw [← ho] at hc
  cases hc)

theorem run_loadVar_one {P : Program} {w : World} {ty : TypeId} {g : Nat} {v : Value} {d : TypeDesc} (hu : P.underlying ty = some d) (hd : (match d with | .struct _ | .array _ _ => true | _ => false) = false) (hc : w.cell? ⟨g, 0, none⟩ = some v) : (loadVar ty ⟨g, 0, none⟩).run P w = .ok v w := by
  have hagg : (isAgg ty).run P w = .ok false w := by
    unfold isAgg
    rw [Sem.run_bind, run_underlying hu w]
    cases d <;> simp_all
  simp [loadVar, Sem.run_bind, hagg, hc]
theorem results_cell_cell {P : Program} {fn : Func} {p q : Tmp} {ty ty2 : TypeId} (h : fn.results = #[.cell p ty, .cell q ty2]) (tmps : Array Value) (w : World) (g g2 : Nat) (v v2 : Value) (d d2 : TypeDesc)
    (hp : tmps.getD p undef = .pointer (some ⟨g, 0, none⟩)) (hq : tmps.getD q undef = .pointer (some ⟨g2, 0, none⟩)) (hu : P.underlying ty = some d) (hd : (match d with | .struct _ | .array _ _ => true | _ => false) = false)
    (hu2 : P.underlying ty2 = some d2) (hd2 : (match d2 with | .struct _ | .array _ _ => true | _ => false) = false) (hc : w.cell? ⟨g, 0, none⟩ = some v) (hc2 : w.cell? ⟨g2, 0, none⟩ = some v2) :
    (results fn tmps).run P w = .ok (.tuple #[v, v2]) w := by
  have hp' : tmps[p]?.getD undef = .pointer (some ⟨g, 0, none⟩) := by simpa using hp
  have hq' : tmps[q]?.getD undef = .pointer (some ⟨g2, 0, none⟩) := by simpa using hq
  simp only [results, h]
  simp [Sem.run_bind, Result.andThen, hp', hq', asAddr, run_loadVar_one hu hd hc, run_loadVar_one hu2 hd2 hc2]
theorem keeps_below {W W' : World} (h : Below W.heap.size W W') : KeepsOthers W W' := KeepsOthers.of_grownBy (grown_of_below h) (fun j o e => by cases e)

set_option maxRecDepth 100000 in
set_option maxHeartbeats 400000 in
theorem family_in (x : Ex) (nv : Value) (w : World) (hN : NodesAt w nv x.1) (hg : GoodX x) (hsup : (T.sup x.1).toNat < 512) (hT : Tab w) (h0 : 0 < w.heap.size) (hlen : (T.famF (T.holds x) (T.subsets (T.sup x.1))).length < 400) (n : Nat) (hn : 3 ≤ n) :
    CallsIn Fence.wide n Tryd.prog 5 #[.agg #[nv, .int .i64 x.2]] w fun e w' => ∃ v, e = .returned (.tuple #[v, .int .i64 0]) ∧ OwnV w.heap.size v (T.famF (T.holds x) (T.subsets (T.sup x.1))) w' ∧ Below w.heap.size w w' := by
  have Hlen : ∀ _ : Unit, _ := fun _ => hlen
  have Hsup : ∀ _ : Unit, _ := fun _ => hsup
  clear hlen hsup
  have hdd : ∀ k : Nat, (Fence.wide.depth.isSome = true → 1 ≤ k) := fun k h => by cases h
  refine callsIn_of_wp_marks Tryd.func5 rfl trivial ?_ rfl
  simp only [Tryd.ntmps5, List.size_toArray, List.length_cons, List.length_nil, Nat.reduceAdd, Nat.reduceSub, Array.replicate_succ, Array.replicate_zero, List.push_toArray, List.append_toArray, List.nil_append, List.cons_append]
  obtain ⟨nb, ncap, rfl, _⟩ := hN.rd
  obtain ⟨w1, hw1⟩ : ∃ w1, ((w.alloc (.cells #[.slice (some ⟨nb, 0, none⟩) x.1.length ncap, .int .i64 x.2] 24)).alloc (.cells #[.slice none 0 0] 28)).alloc (.cells #[.int .i64 0] 25) = w1 := ⟨_, rfl⟩
  have X1 : Blk w.heap.size [.slice (some ⟨nb, 0, none⟩) x.1.length ncap, .int .i64 x.2] 24 w1 := by rw [← hw1]; exact ((Blk.new _ _ w).alloc _).alloc _
  have R1 : Blk (w.heap.size + 1) [.slice none 0 0] 28 w1 := by
    rw [← hw1]
    have h := Blk.new [.slice none 0 0] 28 (w.alloc (.cells #[.slice (some ⟨nb, 0, none⟩) x.1.length ncap, .int .i64 x.2] 24))
    rw [World.size_alloc] at h
    exact h.alloc _
  have E1 : Blk (w.heap.size + 1 + 1) [.int .i64 0] 25 w1 := by
    rw [← hw1]
    have h := Blk.new [.int .i64 0] 25 ((w.alloc (.cells #[.slice (some ⟨nb, 0, none⟩) x.1.length ncap, .int .i64 x.2] 24)).alloc (.cells #[.slice none 0 0] 28))
    rw [World.size_alloc, World.size_alloc] at h
    exact h
  have B1 : Below w.heap.size w w1 := by rw [← hw1]; exact (((Below.refl _ w).alloc (Nat.le_refl _) _).alloc (by simp) _).alloc (by simp; omega) _
  have hV := Valid_any x _ w1 (hN.keep B1) hg
  have c0 := X1.cell 0
  have c1 := X1.cell 1
  simp only [List.getElem?_cons_zero, List.getElem?_cons_succ] at c0 c1
  gi_wp2_with (refine ⟨trivial, hdd _, ?_⟩; first
    | (gi_at_call 14; refine (callsIn_wide.2 hV).mono ?_; clear hV hw1 c0 c1; rintro e w2 ⟨rfl, hB2⟩; have o1 : w.heap.size + 1 + 1 < w2.heap.size := Nat.lt_of_lt_of_le E1.lt hB2.size; have X2 := (X1.keep hB2).alloc (.cells #[.slice none 0 0] 28); have R2 := (R1.keep hB2).alloc (.cells #[.slice none 0 0] 28); have E2 := (E1.keep hB2).alloc (.cells #[.slice none 0 0] 28); have O2 := Blk.new [.slice none 0 0] 28 w2; have B2 := (B1.trans (hB2.mono B1.size)).alloc (Nat.le_trans B1.size hB2.size) (.cells #[.slice none 0 0] 28); have c0 := X2.cell 0; have c1 := X2.cell 1; simp only [List.getElem?_cons_zero, List.getElem?_cons_succ] at c0 c1; have hS := expServers_any x _ (w2.alloc (.cells #[.slice none 0 0] 28)) (hN.keep B2) hg; clear X1 R1 E1 B1 hB2)
    | (gi_at_call 16; refine (callsIn_wide.2 hS).mono ?_; clear hS c0 c1; rintro e w3 ⟨rfl, hB3⟩)
    | (gi_at_call 15; refine (callsIn_wide.2 (subsets_any _ _)).mono ?_; rintro e w4 ⟨rfl, rfl⟩))
  have hbe := B2.size
  have X4 := (X2.keep hB3).alloc (.cells #[.int .u16 (M (T.sup x.1))] 33)
  have R4 := (R2.keep hB3).alloc (.cells #[.int .u16 (M (T.sup x.1))] 33)
  have E4 := (E2.keep hB3).alloc (.cells #[.int .u16 (M (T.sup x.1))] 33)
  have O4 := (O2.keep hB3).alloc (.cells #[.int .u16 (M (T.sup x.1))] 33)
  have S4 := Blk.new [.int .u16 (M (T.sup x.1))] 33 w3
  have B4 := (B2.trans (hB3.mono B2.size)).alloc (Nat.le_trans B2.size hB3.size) (.cells #[.int .u16 (M (T.sup x.1))] 33)
  have o2 : w2.heap.size < w3.heap.size := by
    have h1 := hB3.size
    rw [World.size_alloc] at h1
    omega
  clear X2 R2 E2 O2 B2 hB3 hbe
  generalize hW0 : w3.alloc _ = W0 at X4 R4 E4 O4 S4 B4 ⊢
  have hsz0 : W0.heap.size = w3.heap.size + 1 := by rw [← hW0]; exact World.size_alloc _ _
  clear hW0
  generalize w2.heap.size = Bo at O4 o1 o2 ⊢
  generalize w3.heap.size = bs at S4 o2 hsz0 ⊢
  have hT4 := hT.keep B4
  have hst := subs_stops (T.sup x.1) (Hsup ()) bs (n - 1) W0 S4.lt (S4.cell 0) hT4
  clear S4 hT4
  refine wpIn_rangeFunc_ownF rfl (by omega : 1 ≤ n) (gf := 30) (lb := #[.pointer (some ⟨bs, 0, none⟩)]) rfl trivial (enters_of Tryd.func30 (by kernel_rfl) rfl)
    hst (fun h k => h.trans k) (KpS.put (by omega) (by omega)) (Below.refl _ _) (fun _ => rfl)
    (fun pre W => (T.famF (T.holds x) pre).length ≤ 400 ∧ (∃ v, Boxed W Bo 28 v ∧ W.ownsRow (bs + 1) 33 1 v (T.famF (T.holds x) pre).length (vls (T.famF (T.holds x) pre)) ∧ True) ∧ Blk w.heap.size [.slice (some ⟨nb, 0, none⟩) x.1.length ncap, .int .i64 x.2] 24 W ∧
      Blk (w.heap.size + 1) [.slice none 0 0] 28 W ∧ Blk (w.heap.size + 1 + 1) [.int .i64 0] 25 W ∧ bs + 1 ≤ W.heap.size ∧ Below w.heap.size w W)
    (fun _ pre _ => 400 < (T.famF (T.holds x) pre).length)
    (OwnFrom.and (ownFrom_pure _ (fun pre => (T.famF (T.holds x) pre).length ≤ 400)) (OwnFrom.and (Own.from (holdsRow_own (bs + 1) Bo 28 33 1 (fun pre => (T.famF (T.holds x) pre).length) (fun pre => vls (T.famF (T.holds x) pre)) (fun _ _ => True)) _) (OwnFrom.and (blk_own _ _ _ _) (OwnFrom.and (blk_own _ _ _ _) (OwnFrom.and (blk_own _ _ _ _) (OwnFrom.and (fun _ _ _ _ hs hg _ => Nat.le_trans hs hg.size) (ownFrom_below (Nat.le_refl _) (by omega))))))))
    (fun _ => ownFrom_pure _ (fun pre => 400 < (T.famF (T.holds x) pre).length))
    ⟨Nat.zero_le _, ⟨_, O4, World.ownsRow_nil _ _ _ _, trivial⟩, X4, R4, E4, by omega, B4⟩
    (fun y => { tmps := #[.agg #[.slice (some ⟨nb, 0, none⟩) x.1.length ncap, .int .i64 x.2], .pointer (some ⟨w.heap.size, 0, none⟩), .pointer (some ⟨w.heap.size + 1, 0, none⟩), .pointer (some ⟨w.heap.size + 1 + 1, 0, none⟩), .int .i64 0, .pointer (some ⟨Bo, 0, none⟩), .int .u16 (M y), .agg #[.slice (some ⟨nb, 0, none⟩) x.1.length ncap, .int .i64 x.2], .int .i64 0, .int .i64 0, .bool false, undef, .agg #[.slice (some ⟨nb, 0, none⟩) x.1.length ncap, .int .i64 x.2], .int .u16 (M (T.sup x.1)), .func (.func 30) #[] #[.pointer (some ⟨bs, 0, none⟩)], .int .u16 (M y), undef, undef, undef, undef, undef, undef, undef, undef, undef, undef, undef, undef, undef, undef, undef, undef, undef], defers := [] }) ?assign ?body ?done ?stop
  case assign =>
    intro l y W K hK
    gi_wp2
    exact hK
  case body =>
    rintro l pre y W ⟨h400, ⟨v, hv, hrow, _⟩, hX, hR, hE, hlW, hB⟩ _
    have hsn := T.famF_snoc (T.holds x) pre y
    have hH := holds_any x _ y W (hN.keep hB) hg
    have c0 := hX.cell 0
    have c1 := hX.cell 1
    simp only [List.getElem?_cons_zero, List.getElem?_cons_succ] at c0 c1
    generalize T.famF (T.holds x) pre = out at h400 hrow hsn
    unfold T.famStep at hsn
    have hS : ∀ _ : Unit, _ := fun _ => hsn
    clear hsn Hlen Hsup hst X4 R4 E4 O4 B4 hT
    cases hp : T.holds x y with
    | false =>
      have hS2 : ∀ _ : Unit, T.famF (T.holds x) (pre ++ [y]) = out := fun _ => by rw [hS (), hp]; rfl
      rw [hp] at hH
      clear hS hp
      gi_wp2_with (refine ⟨trivial, hdd _, ?_⟩; gi_at_call 17; refine (CallsIn.inRound l (callsIn_wide.2 hH)).mono ?_; clear hH; rintro e W2 ⟨rfl, hB2⟩)
      refine ⟨trivial, ?_⟩
      gi_wp2
      exact ⟨keeps_below hB2, KpS.of bs hB2, by rw [hS2 ()]; exact h400, by rw [hS2 ()]; exact ⟨v, Blk.keep hv hB2, own_keep hrow hB2, trivial⟩, hX.keep hB2, hR.keep hB2, hE.keep hB2, Nat.le_trans hlW hB2.size, hB.trans (hB2.mono hB.size)⟩
    | true =>
      rw [hp] at hH
      cases ha : T.accepts out y with
      | true =>
        have hS2 : ∀ _ : Unit, T.famF (T.holds x) (pre ++ [y]) = out := fun _ => by rw [hS (), hp, ha]; rfl
        clear hS hp
        gi_wp2_with (refine ⟨trivial, hdd _, ?_⟩; first
          | (gi_at_call 17; refine (CallsIn.inRound l (callsIn_wide.2 hH)).mono ?_; clear hH; rintro e W2 ⟨rfl, hB2⟩; have hv2 := Blk.keep hv hB2; have c5 := hv2.cell 0; simp only [List.getElem?_cons_zero] at c5; have hrow2 := own_keep hrow hB2; have hA := accepts_any v out y W2 (OwnV.sets hrow2 (by omega)); rw [ha] at hA)
          | (gi_at_call 18; refine (CallsIn.inRound l (callsIn_wide.2 hA)).mono ?_; clear hA; rintro e W3 ⟨rfl, hB3⟩))
        have hB4 := hB2.trans (hB3.mono hB2.size)
        exact ⟨keeps_below hB4, KpS.of bs hB4, by rw [hS2 ()]; exact h400, by rw [hS2 ()]; exact ⟨v, Blk.keep hv hB4, own_keep hrow hB4, trivial⟩, hX.keep hB4, hR.keep hB4, hE.keep hB4, Nat.le_trans hlW hB4.size, hB.trans (hB4.mono hB.size)⟩
      | false =>
        have hS2 : ∀ _ : Unit, T.famF (T.holds x) (pre ++ [y]) = out ++ [y] := fun _ => by rw [hS (), hp, ha]; rfl
        clear hS hp
        obtain ⟨oa, oc, rfl⟩ := owns_slice hrow
        by_cases h4 : out.length = 400
        · have h5 : ((out.length : Int) == 400) = true := by rw [beq_iff_eq]; omega
          have h6 : 400 < (T.famF (T.holds x) (pre ++ [y])).length := by rw [hS2 (), List.length_append, h4]; simp
          have H6 : ∀ _ : Unit, _ := fun _ => h6
          clear h6 hS2 h4
          gi_wp2_with (refine ⟨trivial, hdd _, ?_⟩; first
            | (gi_at_call 17; refine (CallsIn.inRound l (callsIn_wide.2 hH)).mono ?_; clear hH; rintro e W2 ⟨rfl, hB2⟩; have hv2 := Blk.keep hv hB2; have c5 := hv2.cell 0; simp only [List.getElem?_cons_zero] at c5; have hrow2 := own_keep hrow hB2; have hA := accepts_any _ out y W2 (OwnV.sets hrow2 (by omega)); rw [ha] at hA)
            | (gi_at_call 18; refine (CallsIn.inRound l (callsIn_wide.2 hA)).mono ?_; clear hA; rintro e W3 ⟨rfl, hB3⟩; have hv3 := Blk.keep hv2 hB3; have c6 := hv3.cell 0; have hB4 := hB2.trans (hB3.mono hB2.size); have hR3 := hR.keep hB4; have hE3 := hE.keep hB4; have c7 := hR3.cell 0; have f7 := hR3.free 0; have c8 := hE3.cell 0; have f8 := hE3.free 0; simp only [List.getElem?_cons_zero] at c6 c7 c8))
          exact ⟨((keeps_below hB4).trans (KeepsOthers.setCell _ _ _)).trans (KeepsOthers.setCell _ _ _), H6 ()⟩
        · have h5 : ((out.length : Int) == 400) = false := by rw [beq_eq_false_iff_ne]; omega
          have h6 : out.length + 1 ≤ 400 := by omega
          clear h4
          obtain ⟨i0, hi, hz0, hz1, hz2⟩ := info_parts infoSet
          gi_wp2_with (first
            | (refine ⟨trivial, hdd _, ?_⟩; gi_at_call 17; refine (CallsIn.inRound l (callsIn_wide.2 hH)).mono ?_; clear hH; rintro e W2 ⟨rfl, hB2⟩; have hv2 := Blk.keep hv hB2; have c5 := hv2.cell 0; simp only [List.getElem?_cons_zero] at c5; have hrow2 := own_keep hrow hB2; have hA := accepts_any _ out y W2 (OwnV.sets hrow2 (by omega)); rw [ha] at hA)
            | (refine ⟨trivial, hdd _, ?_⟩; gi_at_call 18; refine (CallsIn.inRound l (callsIn_wide.2 hA)).mono ?_; clear hA; rintro e W3 ⟨rfl, hB3⟩; have hv3 := Blk.keep hv2 hB3; have c6 := hv3.cell 0; have hB4 := hB2.trans (hB3.mono hB2.size); have hrow3 := own_keep hrow2 hB3; have hsz3 : bs + 1 ≤ W3.heap.size := Nat.le_trans (Nat.le_trans (by omega) hlW) hB4.size; simp only [List.getElem?_cons_zero] at c6; clear hv2 c5 hrow2 hB2 hB3)
            | (gi_at_builtin; refine wpListIn_append_own _ rfl _ _ 28 rfl (bs + 1) 33 i0 (.int .u16 0) 1 2 Tryd.underlying28 hi hz0 hz1 hz2 rfl (by decide) _ _ _ rfl (hrow3.alloc _) ⟨W3.heap.size, 0, none⟩ 1 1 [.int .u16 (M y)] rfl rfl (cell_one_new _ _ _) (by simp [Value.oneCell']) (by unfold maxLen; omega) (by omega) (by simp; omega) ?_; intro v' w5 hown' hgrow _; obtain ⟨g', cap', rfl⟩ := ownsRow_succ hown'; obtain ⟨hv5, hv6, hr6, hk6, hb6⟩ := Boxed.appended hv3 (by decide) (own_low hrow3 (show w.heap.size ≤ bs + 1 by omega)) (by omega) (show w.heap.size ≤ Bo by omega) (own_low hown' (show w.heap.size ≤ bs + 1 by omega)) hgrow; have c7 := hv5.cell; have f7 := hv5.frozen))
          have hg2 := grown_set w5 Bo 0 (.slice (some ⟨g', 0, none⟩) (out.length + 1) cap')
          have e1 : Blk Bo _ 28 w5 := hv5
          have hX5 := (((hX.keep hB4).alloc (.cells #[.int .u16 (M y)] 33)).grown hgrow (ne_row ((hX.keep hB4).alloc (.cells #[.int .u16 (M y)] 33)) (hrow3.alloc _) (by decide))).other (c := Bo) 0 (.slice (some ⟨g', 0, none⟩) (out.length + 1) cap') (by omega)
          have hR5 := (((hR.keep hB4).alloc (.cells #[.int .u16 (M y)] 33)).grown hgrow (ne_row ((hR.keep hB4).alloc (.cells #[.int .u16 (M y)] 33)) (hrow3.alloc _) (by decide))).other (c := Bo) 0 (.slice (some ⟨g', 0, none⟩) (out.length + 1) cap') (by omega)
          have hE5 := (((hE.keep hB4).alloc (.cells #[.int .u16 (M y)] 33)).grown hgrow (ne_row ((hE.keep hB4).alloc (.cells #[.int .u16 (M y)] 33)) (hrow3.alloc _) (by decide))).other (c := Bo) 0 (.slice (some ⟨g', 0, none⟩) (out.length + 1) cap') (by omega)
          have hK : KpS bs W3 (w5.setCell ⟨Bo, 0, none⟩ (.slice (some ⟨g', 0, none⟩) (out.length + 1) cap')) := by
            refine ((KpS.of bs (below_box W3 (.cells #[.int .u16 (M y)] 33))).trans (KpS.grown hgrow (fun g hg => ?_))).trans (KpS.grown hg2 (fun g hg => ?_))
            · obtain ⟨C, fr, T, q1, q2⟩ := own_typed (hrow3.alloc (.cells #[.int .u16 (M y)] 33)) g hg
              have q3 := (hrow3.lt g hg).1
              exact ⟨by omega, by omega, C, fr, T, q1, by rw [q2]; decide⟩
            · have hg := Option.some.inj hg
              subst hg
              exact ⟨by omega, by omega, _, _, _, hv5, by decide⟩
          refine ⟨(keeps_below hB4).trans hk6, (KpS.of bs hB4).trans hK, by rw [hS2 (), List.length_append]; exact h6, ⟨_, hv6, ?_, trivial⟩, hX5, hR5, hE5, Nat.le_trans hsz3 hK.size, hB.trans (hB4.mono hB.size) |>.trans hb6⟩
          rw [hS2 (), List.length_append]
          unfold vls
          rw [List.map_append]
          exact World.ownsRow.kept hown' hg2 (not_row e1 hown' (by decide))
  case done =>
    rintro D ys W hD rfl ⟨h400, ⟨v, hv, hrow, _⟩, hX, hR, hE, hlW, hB⟩ hK
    obtain ⟨out, hout⟩ : ∃ out, ∀ _ : Unit, T.famF (T.holds x) (T.subsets (T.sup x.1)) = out := ⟨_, fun _ => rfl⟩
    rw [hout ()] at h400 hrow
    clear Hlen Hsup hst X4 R4 E4 O4 B4 hT hg hN hX
    obtain ⟨oa, oc, rfl⟩ := owns_slice hrow
    have c1 := hv.cell
    have c2 := hR.cell 0
    have f2 := hR.free 0
    have c3 := hE.cell 0
    have f3 := hE.free 0
    simp only [List.getElem?_cons_zero] at c2 c3
    gi_wp2
    clear c1 c2 c3 f2 f3
    have hR2 : Blk (w.heap.size + 1) [.slice oa out.length oc] 28 ((W.setCell ⟨w.heap.size + 1, 0, none⟩ (.slice oa out.length oc)).setCell ⟨w.heap.size + 1 + 1, 0, none⟩ (.int .i64 0)) := (hR.set 0 (.slice oa out.length oc)).other (c := w.heap.size + 1 + 1) 0 _ (by omega)
    have hE2 : Blk (w.heap.size + 1 + 1) [.int .i64 0] 25 ((W.setCell ⟨w.heap.size + 1, 0, none⟩ (.slice oa out.length oc)).setCell ⟨w.heap.size + 1 + 1, 0, none⟩ (.int .i64 0)) := (hE.other (c := w.heap.size + 1) 0 _ (by omega)).set 0 (.int .i64 0)
    have hr1 := World.ownsRow.kept (own_low hrow (show w.heap.size ≤ bs + 1 by omega)) (grown_set W (w.heap.size + 1) 0 (.slice oa out.length oc)) (not_row hR hrow (by decide))
    have hr2 := World.ownsRow.kept hr1 (grown_set _ (w.heap.size + 1 + 1) 0 (.int .i64 0)) (not_row (hE.other (c := w.heap.size + 1) 0 _ (by omega)) hr1 (by decide))
    have hK2 := (KeepsOthers.setCell (W.setCell ⟨w.heap.size + 1, 0, none⟩ (.slice oa out.length oc)) ⟨w.heap.size + 1 + 1, 0, none⟩ (.int .i64 0)).same D _ ((KeepsOthers.setCell W ⟨w.heap.size + 1, 0, none⟩ (.slice oa out.length oc)).same D _ hK rfl) rfl
    have hB2 := (hB.setCell (p := ⟨w.heap.size + 1, 0, none⟩) (Nat.le_succ _) (.slice oa out.length oc)).setCell (p := ⟨w.heap.size + 1 + 1, 0, none⟩) (by show w.heap.size ≤ w.heap.size + 1 + 1; omega) (.int .i64 0)
    generalize (W.setCell ⟨w.heap.size + 1, 0, none⟩ (.slice oa out.length oc)).setCell ⟨w.heap.size + 1 + 1, 0, none⟩ (.int .i64 0) = U at hR2 hE2 hr2 hK2 hB2 ⊢
    refine ⟨by simp, .inl ⟨_, _, rfl, run_takeDeferred hK2, ?_⟩⟩
    have hD1 : ∀ b, b < D → (U.putObj D (.deferred none)).heap[b]? = U.heap[b]? := fun b hb => World.putObj_heap_other (by omega)
    refine ⟨_, results_cell_cell rfl _ _ (w.heap.size + 1) (w.heap.size + 1 + 1) (.slice oa out.length oc) (.int .i64 0) _ _ rfl rfl Tryd.underlying28 rfl Tryd.underlying25 rfl
      ((World.cell?_of_block (hD1 _ (by show w.heap.size + 1 < D; omega))).trans (hR2.cell 0)) ((World.cell?_of_block (hD1 _ (by show w.heap.size + 1 + 1 < D; omega))).trans (hE2.cell 0)), ?_⟩
    rw [hout ()]
    exact ⟨_, rfl, ownsRow_putObj hr2 _ hK2 rfl, hB2.trans (belowK_b (w := W0) (by omega) U D _ _ hD hK2 rfl rfl)⟩
  case stop =>
    rintro D c pre W hD hpre h6 hK
    have h1 := (T.famF_prefix (T.holds x) _ _ hpre).length_le
    have h2 := Hlen ()
    omega
end Go.Proofs.YtjjmnpgbcgkcpaaDoor
